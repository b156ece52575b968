/-
  Newton's polynomial modulo 257, coefficient by coefficient as the program reckons it, and that it goes through the points. Conditions: the places differ modulo 257. Nothing of the program is imported.
-/
import Derived.Test.YtbljihhelladbaaLag
namespace Go.Proofs.Ytbljihhelladbaa.Fld
set_option linter.unusedSimpArgs false

/-- a over b as the program reckons it -/
def overP (a b : Int) : Int := a * powGo 9 255 1 b % 257

theorem overP_cg (a b : Int) : Cg (overP a b) (a * inv b) := (Cg.mod _).trans (Cg.mul_left a (Cg.mod _).symm)
theorem overP_range (a b : Int) : 0 ≤ overP a b ∧ overP a b ≤ 256 := mod_range _

/-- every number is from 0 to 256 -/
def Rng (l : List Int) : Prop := ∀ c ∈ l, 0 ≤ c ∧ c ≤ 256

theorem Rng.getD {l : List Int} (h : Rng l) (i : Nat) : 0 ≤ l.getD i 0 ∧ l.getD i 0 ≤ 256 := by
  by_cases hi : i < l.length
  · rw [getD_lt _ _ hi]; exact h _ (List.getElem_mem hi)
  · rw [getD_ge _ _ (by omega)]; omega
theorem Rng.of_getD {l : List Int} (h : ∀ i, i < l.length → 0 ≤ l.getD i 0 ∧ l.getD i 0 ≤ 256) : Rng l := by
  intro c hc
  obtain ⟨i, hi, rfl⟩ := List.getElem_of_mem hc
  have := h i hi
  rwa [getD_lt _ _ hi] at this
theorem getD_set (l : List Int) (i : Nat) (v : Int) (m : Nat) : (l.set i v).getD m 0 = if m = i ∧ i < l.length then v else l.getD m 0 := by
  simp only [List.getD_eq_getElem?_getD, List.getElem?_set]
  by_cases h : i = m
  · subst h
    by_cases h2 : i < l.length
    · simp [h2]
    · simp [h2]
  · have : ¬ m = i := fun e => h e.symm
    simp [h, this]

/-- equal coefficients modulo 257, missing ones being 0: equal values -/
theorem ev_zero : ∀ (p : List Int) (x : Int), (∀ i, Cg (p.getD i 0) 0) → Cg (ev p x) 0
  | [], _, _ => Cg.refl 0
  | a :: p, x, h => by
    have h0 : Cg a 0 := by simpa using h 0
    have ih := ev_zero p x (fun i => by simpa using h (i + 1))
    have h1 := Cg.mul_left x ih
    show Cg (a + x * ev p x) 0
    unfold Cg at *
    omega
theorem ev_cgD : ∀ (p q : List Int) (x : Int), (∀ i, Cg (p.getD i 0) (q.getD i 0)) → Cg (ev p x) (ev q x)
  | [], q, x, h => (ev_zero q x fun i => by simpa using (h i).symm).symm
  | a :: p, [], x, h => ev_zero (a :: p) x fun i => by simpa using h i
  | a :: p, b :: q, x, h => Cg.add (by simpa using h 0) (Cg.mul_left x (ev_cgD p q x fun i => by simpa using h (i + 1)))

/-- the sum, missing coefficients being 0 -/
def addZ : List Int → List Int → List Int
  | [], q => q
  | a :: p, [] => a :: p
  | a :: p, b :: q => (a + b) :: addZ p q
theorem ev_addZ : ∀ (p q : List Int) (x : Int), ev (addZ p q) x = ev p x + ev q x
  | [], q, x => by simp [addZ, ev]
  | a :: p, [], x => by simp [addZ, ev]
  | a :: p, b :: q, x => by
    show (a + b) + x * ev (addZ p q) x = (a + x * ev p x) + (b + x * ev q x)
    rw [ev_addZ p q x]; (simp only [Int.mul_add, Int.add_mul, Int.mul_sub, Int.sub_mul, Int.mul_assoc, Int.mul_left_comm, Int.mul_comm, Int.one_mul, Int.mul_one, Int.pow_succ] <;> omega)
theorem getD_addZ : ∀ (p q : List Int) (i : Nat), (addZ p q).getD i 0 = p.getD i 0 + q.getD i 0
  | [], q, i => by simp [addZ]
  | a :: p, [], i => by simp [addZ]
  | a :: p, b :: q, 0 => by simp [addZ]
  | a :: p, b :: q, i + 1 => by simpa [addZ] using getD_addZ p q i
theorem getD_smul (k : Int) (p : List Int) (i : Nat) : (smul k p).getD i 0 = k * p.getD i 0 := by
  simp only [smul, List.getD_eq_getElem?_getD, List.getElem?_map]
  cases p[i]? <;> simp

/-- the first k steps of the loop over the coefficients: what has been found so far -/
def inO (f : Int) (g o : List Int) : Nat → List Int
  | 0 => o
  | k + 1 => (inO f g o k).set k (((inO f g o k).getD k 0 + f * g.getD k 0) % 257)
/-- and what is nought at all places so far, times (X - x) -/
def inN1 (g n : List Int) (k : Nat) : List Int := n.set (k + 1) ((n.getD (k + 1) 0 + g.getD k 0) % 257)
def inN (x : Int) (g : List Int) : Nat → List Int
  | 0 => List.replicate (g.length + 1) 0
  | k + 1 => (inN1 g (inN x g k) k).set k (((inN1 g (inN x g k) k).getD k 0 + (257 - x) * g.getD k 0) % 257)

theorem inO_length (f : Int) (g o : List Int) (k : Nat) : (inO f g o k).length = o.length := by
  induction k with
  | zero => rfl
  | succ k ih => simp [inO, ih]
theorem inN_length (x : Int) (g : List Int) (k : Nat) : (inN x g k).length = g.length + 1 := by
  induction k with
  | zero => simp [inN]
  | succ k ih => simp [inN, inN1, ih]

theorem inO_getD (f : Int) (g o : List Int) (k : Nat) (hk : k ≤ o.length) (m : Nat) : (inO f g o k).getD m 0 = if m < k then (o.getD m 0 + f * g.getD m 0) % 257 else o.getD m 0 := by
  induction k with
  | zero => simp [inO]
  | succ k ih =>
    have ih' := ih (by omega)
    unfold inO
    rw [getD_set, inO_length]
    by_cases h : m = k
    · subst h
      rw [if_pos ⟨rfl, by omega⟩, ih', if_neg (by omega), if_pos (by omega)]
    · rw [if_neg (by omega), ih']
      by_cases h2 : m < k
      · rw [if_pos h2, if_pos (by omega)]
      · rw [if_neg h2, if_neg (by omega)]

theorem inO_rng {f : Int} {g o : List Int} (ho : Rng o) (k : Nat) : Rng (inO f g o k) := by
  induction k with
  | zero => exact ho
  | succ k ih =>
    refine Rng.of_getD fun i _ => ?_
    unfold inO
    rw [getD_set]
    split
    · exact mod_range _
    · exact ih.getD i

theorem inN1_getD (g n : List Int) (k m : Nat) (hn : k + 1 < n.length) : (inN1 g n k).getD m 0 = if m = k + 1 then (n.getD (k + 1) 0 + g.getD k 0) % 257 else n.getD m 0 := by
  unfold inN1
  rw [getD_set]
  by_cases h : m = k + 1
  · rw [if_pos ⟨h, hn⟩, if_pos h]
  · rw [if_neg (fun e => h e.1), if_neg h]

theorem inN1_rng {g n : List Int} (hn : Rng n) (k : Nat) : Rng (inN1 g n k) := by
  refine Rng.of_getD fun i _ => ?_
  unfold inN1
  rw [getD_set]
  split
  · exact mod_range _
  · exact hn.getD i

theorem inN_rng (x : Int) (g : List Int) (k : Nat) : Rng (inN x g k) := by
  induction k with
  | zero => intro c hc; have := (List.mem_replicate.1 hc).2; omega
  | succ k ih =>
    refine Rng.of_getD fun i _ => ?_
    unfold inN
    rw [getD_set]
    split
    · exact mod_range _
    · exact (inN1_rng ih k).getD i

theorem inN_getD (x : Int) (g : List Int) (k : Nat) (hk : k ≤ g.length) (m : Nat) :
    Cg ((inN x g k).getD m 0) ((if 1 ≤ m ∧ m ≤ k then g.getD (m - 1) 0 else 0) + (if m < k then (257 - x) * g.getD m 0 else 0)) := by
  induction k generalizing m with
  | zero =>
    have e : (inN x g 0).getD m 0 = 0 := by
      simp only [inN, List.getD_eq_getElem?_getD, List.getElem?_replicate]
      split <;> rfl
    rw [e, if_neg (by omega), if_neg (by omega)]
    exact Cg.refl _
  | succ k ih =>
    have ih' := fun m => ih (by omega) m
    unfold inN
    rw [getD_set]
    have hl1 : (inN1 g (inN x g k) k).length = g.length + 1 := by simp [inN1, inN_length]
    rw [hl1]
    have hlt : k + 1 < (inN x g k).length := by rw [inN_length]; omega
    by_cases h : m = k
    · subst h
      rw [if_pos ⟨rfl, by omega⟩, inN1_getD _ _ _ _ hlt, if_neg (by omega), if_pos (show m < m + 1 by omega)]
      have h1 := ih' m
      rw [if_neg (show ¬ m < m by omega)] at h1
      by_cases hm : 1 ≤ m
      · rw [if_pos ⟨hm, Nat.le_refl _⟩] at h1
        rw [if_pos ⟨hm, by omega⟩]
        unfold Cg at *; omega
      · rw [if_neg (by omega)] at h1
        rw [if_neg (by omega)]
        unfold Cg at *; omega
    · rw [if_neg (by omega), inN1_getD _ _ _ _ hlt]
      by_cases h1 : m = k + 1
      · subst h1
        rw [if_pos rfl, if_pos ⟨by omega, Nat.le_refl _⟩, if_neg (by omega)]
        have h2 := ih' (k + 1)
        rw [if_neg (by omega), if_neg (by omega)] at h2
        simp only [Nat.add_sub_cancel]
        unfold Cg at *; omega
      · rw [if_neg h1]
        have h2 := ih' m
        by_cases hm : m < k
        · rw [if_pos hm] at h2
          rw [if_pos (show m < k + 1 by omega)]
          by_cases hm1 : 1 ≤ m
          · rw [if_pos ⟨hm1, by omega⟩] at h2
            rw [if_pos ⟨hm1, by omega⟩]; exact h2
          · rw [if_neg (by omega)] at h2
            rw [if_neg (by omega)]; exact h2
        · rw [if_neg (by omega), if_neg hm] at h2
          rw [if_neg (by omega), if_neg (by omega)]; exact h2

theorem inO_ev (f : Int) (g o : List Int) (hl : g.length ≤ o.length) (t : Int) : Cg (ev (inO f g o g.length) t) (ev o t + f * ev g t) := by
  have h := ev_cgD (inO f g o g.length) (addZ o (smul f g)) t fun m => by
    rw [inO_getD _ _ _ _ hl, getD_addZ, getD_smul]
    by_cases hm : m < g.length
    · rw [if_pos hm]; exact Cg.mod _
    · rw [if_neg hm, getD_ge g 0 (by omega)]; exact Cg.of_eq (by simp)
  rwa [ev_addZ, ev_smul] at h

theorem inN_ev (x : Int) (g : List Int) (t : Int) : Cg (ev (inN x g g.length) t) ((t - x) * ev g t) := by
  have h := ev_cgD (inN x g g.length) (addZ (0 :: g) (smul (257 - x) g)) t fun m => by
    rw [getD_addZ, getD_smul]
    refine (inN_getD x g g.length (Nat.le_refl _) m).trans (Cg.of_eq ?_)
    cases m with
    | zero =>
      by_cases hm : 0 < g.length
      · rw [if_neg (by omega), if_pos hm]; simp
      · rw [if_neg (by omega), if_neg hm, getD_ge g 0 (by omega)]; simp
    | succ m =>
      by_cases hm : m + 1 ≤ g.length
      · rw [if_pos ⟨by omega, hm⟩]
        by_cases h2 : m + 1 < g.length
        · rw [if_pos h2]; simp
        · rw [if_neg h2, getD_ge g 0 (i := m + 1) (by omega)]; simp
      · rw [if_neg (by omega), if_neg (by omega), getD_ge g 0 (i := m + 1) (by omega)]
        simp only [List.getD_cons_succ]
        rw [getD_ge g 0 (i := m) (by omega)]; simp
  rw [ev_addZ, ev_smul] at h
  refine h.trans ?_
  have e : ev (0 :: g) t + (257 - x) * ev g t = (t - x) * ev g t + 257 * ev g t := by simp only [ev]; (simp only [Int.mul_add, Int.add_mul, Int.mul_sub, Int.sub_mul, Int.mul_assoc, Int.mul_left_comm, Int.mul_comm, Int.one_mul, Int.mul_one, Int.pow_succ] <;> omega)
  rw [e]
  unfold Cg; omega

/-- the whole: what has been found, and what is nought at the places so far, behind i places -/
def thr (xs ys : List Int) : Nat → List Int × List Int
  | 0 => (List.replicate xs.length 0, [1])
  | i + 1 =>
    let o := (thr xs ys i).1
    let g := (thr xs ys i).2
    let x := xs.getD i 0
    (inO (overP ((ys.getD i 0 - ev o x) % 257) (ev g x % 257)) g o g.length, inN x g g.length)

/-- the product of (t - place) over the first i places -/
def prodAll (xs : List Int) (t : Int) : Nat → Int
  | 0 => 1
  | i + 1 => (t - xs.getD i 0) * prodAll xs t i

theorem prodAll_root (xs : List Int) (i k : Nat) (h : k < i) : prodAll xs (xs.getD k 0) i = 0 := by
  induction i with
  | zero => omega
  | succ i ih =>
    unfold prodAll
    by_cases e : k = i
    · subst e; simp
    · rw [ih (by omega)]; simp

theorem prodAll_ne (xs : List Int) (n i k : Nat) (h : ApartTo xs n) (hi : i ≤ k) (hk : k < n) : ¬ Cg (prodAll xs (xs.getD k 0) i) 0 := by
  induction i with
  | zero => simp [prodAll, Cg]
  | succ i ih =>
    unfold prodAll
    intro hz
    refine ih (by omega) (prime hz fun hc => ?_)
    exact h i k (by omega) hk (Cg.sub_zero hc).symm

theorem thr_facts (xs ys : List Int) (h : ApartTo xs xs.length) (i : Nat) (hi : i ≤ xs.length) :
    (thr xs ys i).1.length = xs.length ∧ (thr xs ys i).2.length = i + 1 ∧ Rng (thr xs ys i).1 ∧ Rng (thr xs ys i).2 ∧
    (∀ t, Cg (ev (thr xs ys i).2 t) (prodAll xs t i)) ∧ (∀ j, j < i → Cg (ev (thr xs ys i).1 (xs.getD j 0)) (ys.getD j 0)) := by
  induction i with
  | zero =>
    refine ⟨by simp [thr], by simp [thr], ?_, ?_, fun t => by simp [thr, ev, prodAll, Cg], fun j hj => by omega⟩
    · intro c hc
      have := (List.mem_replicate.1 hc).2
      omega
    · intro c hc
      simp [thr] at hc
      omega
  | succ i ih =>
    obtain ⟨h1, h2, h3, h4, h5, h6⟩ := ih (by omega)
    refine ⟨by simp only [thr]; rw [inO_length, h1], by simp only [thr]; rw [inN_length, h2], ?_, ?_, fun t => ?_, fun j hj => ?_⟩
    · simp only [thr]; exact inO_rng h3 _
    · simp only [thr]; exact inN_rng _ _ _
    · simp only [thr, prodAll]
      exact (inN_ev _ _ t).trans (Cg.mul_left _ (h5 t))
    · simp only [thr]
      refine (inO_ev _ _ _ (by omega) _).trans ?_
      by_cases e : j = i
      · subst e
        have hg : ¬ Cg (ev (thr xs ys j).2 (xs.getD j 0)) 0 := fun hz => prodAll_ne xs xs.length j j h (Nat.le_refl _) (by omega) ((h5 _).symm.trans hz)
        have ho := overP_cg ((ys.getD j 0 - ev (thr xs ys j).1 (xs.getD j 0)) % 257) (ev (thr xs ys j).2 (xs.getD j 0) % 257)
        rw [inv_cg (Cg.mod (ev (thr xs ys j).2 (xs.getD j 0)))] at ho
        generalize overP ((ys.getD j 0 - ev (thr xs ys j).1 (xs.getD j 0)) % 257) (ev (thr xs ys j).2 (xs.getD j 0) % 257) = f at ho
        generalize hG : ev (thr xs ys j).2 (xs.getD j 0) = G at ho hg
        have h7 : Cg (f * G) ((ys.getD j 0 - ev (thr xs ys j).1 (xs.getD j 0)) % 257 * (G * inv G)) := (Cg.mul_right G ho).trans (Cg.of_eq (by (simp only [Int.mul_add, Int.add_mul, Int.mul_sub, Int.sub_mul, Int.mul_assoc, Int.mul_left_comm, Int.mul_comm, Int.one_mul, Int.mul_one, Int.pow_succ] <;> omega)))
        have h8 := h7.trans (Cg.mul_left _ (mul_inv hg))
        generalize f * G = z at *
        generalize ev (thr xs ys j).1 (xs.getD j 0) = u at *
        unfold Cg at *
        omega
      · have h7 := h6 j (by omega)
        have h8 : Cg (ev (thr xs ys i).2 (xs.getD j 0)) 0 := (h5 _).trans (Cg.of_eq (prodAll_root xs i j (by omega)))
        have h9 := Cg.mul_left (overP ((ys.getD i 0 - ev (thr xs ys i).1 (xs.getD i 0)) % 257) (ev (thr xs ys i).2 (xs.getD i 0) % 257)) h8
        unfold Cg at *
        omega

/-- the program's polynomial -/
def through (xs ys : List Int) : List Int := (thr xs ys xs.length).1

theorem through_length (xs ys : List Int) (h : ApartTo xs xs.length) : (through xs ys).length = xs.length := (thr_facts xs ys h _ (Nat.le_refl _)).1
theorem through_rng (xs ys : List Int) (h : ApartTo xs xs.length) : Rng (through xs ys) := (thr_facts xs ys h _ (Nat.le_refl _)).2.2.1
theorem through_interp (xs ys : List Int) (h : ApartTo xs xs.length) : Interp xs ys (through xs ys) :=
  ⟨through_length xs ys h, (thr_facts xs ys h _ (Nat.le_refl _)).2.2.2.2.2⟩

end Go.Proofs.Ytbljihhelladbaa.Fld
