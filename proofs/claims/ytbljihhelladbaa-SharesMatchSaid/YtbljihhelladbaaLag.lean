/-
  Lagrange's value modulo 257 as the reference reckons it (from left to right, reduced at each step), and that it is the value of the one polynomial through the points. Conditions: the places differ modulo 257. Nothing of the program is imported.
-/
import Derived.Test.YtbljihhelladbaaFld
namespace Go.Proofs.Ytbljihhelladbaa.Fld
set_option linter.unusedSimpArgs false

/-- the first x from 0 to 256 with x * b = a (modulo 257); 0: there is none -/
def hit (a b : Int) (x : Nat) : Bool := (x : Int) * b % 257 == a
def overOf (a b : Int) : Int := match (List.range 257).find? (hit a b) with
  | none => 0
  | some x => (x : Int)

theorem overOf_eq {a b : Int} (ha : 0 ≤ a ∧ a ≤ 256) (hb : ¬ Cg b 0) : overOf a b = a * inv b % 257 := by
  have hr := mod_range (a * inv b)
  have hk : (((a * inv b % 257).toNat : Nat) : Int) = a * inv b % 257 := by omega
  have hit1 : (((a * inv b % 257).toNat : Nat) : Int) * b % 257 = a := by
    rw [hk]
    have h1 : Cg (a * inv b % 257 * b) (a * (b * inv b)) := (Cg.mul_right b (Cg.mod _)).trans (Cg.of_eq (by (simp only [Int.mul_add, Int.add_mul, Int.mul_sub, Int.sub_mul, Int.mul_assoc, Int.mul_left_comm, Int.mul_comm, Int.one_mul, Int.mul_one, Int.pow_succ] <;> omega)))
    have h2 : Cg (a * (b * inv b)) (a * 1) := Cg.mul_left a (mul_inv hb)
    have h3 := h1.trans h2
    unfold Cg at h3
    omega
  have huniq : ∀ x : Nat, x < 257 → (x : Int) * b % 257 = a → (x : Int) = a * inv b % 257 := by
    intro x hx h
    have h1 : Cg ((x : Int) * b * inv b) (a * inv b) := Cg.mul_right _ (by unfold Cg; omega)
    have h2 : Cg ((x : Int) * (b * inv b)) ((x : Int) * 1) := Cg.mul_left _ (mul_inv hb)
    have h3 : Cg (x : Int) (a * inv b) := by
      have e : (x : Int) * b * inv b = (x : Int) * (b * inv b) := Int.mul_assoc ..
      rw [e] at h1
      simpa using h2.symm.trans h1
    unfold Cg at h3
    omega
  unfold overOf
  cases hf : (List.range 257).find? (hit a b) with
  | none =>
    have := List.find?_eq_none.1 hf (a * inv b % 257).toNat (by simp; omega)
    exact absurd (by unfold hit; rw [hit1]; simp) this
  | some x =>
    have h1 := List.find?_some hf
    have h2 := List.mem_of_find?_eq_some hf
    exact huniq x (by simpa using h2) (by simpa [hit] using h1)

theorem overOf_range (a b : Int) : 0 ≤ overOf a b ∧ overOf a b ≤ 256 := by
  unfold overOf
  cases hf : (List.range 257).find? (hit a b) with
  | none => exact ⟨by simp, by simp⟩
  | some x =>
    have h2 := List.mem_of_find?_eq_some hf
    simp at h2
    show 0 ≤ (x : Int) ∧ (x : Int) ≤ 256
    omega

/-- the product over the first n places but the i-th, of (t - place), times u, reduced at each step -/
def upTo (xs : List Int) (i : Nat) (t u : Int) : Nat → Int
  | 0 => u
  | j + 1 => if j = i then upTo xs i t u j else upTo xs i t u j * (t - xs.getD j 0) % 257

/-- the same product, as a polynomial in t -/
def prodTo (xs : List Int) (i : Nat) : Nat → List Int
  | 0 => [1]
  | j + 1 => if j = i then prodTo xs i j else mulLin (xs.getD j 0) (prodTo xs i j)

theorem upTo_cg (xs : List Int) (i : Nat) (t u : Int) (n : Nat) : Cg (upTo xs i t u n) (u * ev (prodTo xs i n) t) := by
  induction n with
  | zero => simp [upTo, prodTo, ev]; exact Cg.refl _
  | succ j ih =>
    unfold upTo prodTo
    by_cases h : j = i
    · rw [if_pos h, if_pos h]; exact ih
    · rw [if_neg h, if_neg h, ev_mulLin]
      exact (Cg.mod _).trans ((Cg.mul_right _ ih).trans (Cg.of_eq (by (simp only [Int.mul_add, Int.add_mul, Int.mul_sub, Int.sub_mul, Int.mul_assoc, Int.mul_left_comm, Int.mul_comm, Int.one_mul, Int.mul_one, Int.pow_succ] <;> omega))))

theorem prodTo_length (xs : List Int) (i n : Nat) : (prodTo xs i n).length = if i < n then n else n + 1 := by
  induction n with
  | zero => simp [prodTo]
  | succ j ih =>
    unfold prodTo
    by_cases h : j = i
    · rw [if_pos h, ih]; simp [h]
    · rw [if_neg h, mulLin_length, ih]
      by_cases h2 : i < j
      · rw [if_pos h2, if_pos (by omega)]
      · rw [if_neg h2, if_neg (by omega)]

theorem prodTo_root (xs : List Int) (i n k : Nat) (hk : k < n) (hki : k ≠ i) : ev (prodTo xs i n) (xs.getD k 0) = 0 := by
  induction n with
  | zero => omega
  | succ j ih =>
    unfold prodTo
    by_cases h : j = i
    · rw [if_pos h]; exact ih (by omega)
    · rw [if_neg h, ev_mulLin]
      by_cases h2 : k = j
      · subst h2; simp
      · rw [ih (by omega)]; simp

/-- the places differ modulo 257 -/
def ApartTo (xs : List Int) (n : Nat) : Prop := ∀ i j, i < j → j < n → ¬ Cg (xs.getD i 0) (xs.getD j 0)

theorem prodTo_own (xs : List Int) (i n : Nat) (m : Nat) (him : i < m) (hn : n ≤ m) (h : ApartTo xs m) : ¬ Cg (ev (prodTo xs i n) (xs.getD i 0)) 0 := by
  induction n with
  | zero => simp [prodTo, ev, Cg]
  | succ j ih =>
    unfold prodTo
    by_cases hj : j = i
    · rw [if_pos hj]; exact ih (by omega)
    · rw [if_neg hj, ev_mulLin]
      intro hz
      have hne : ¬ Cg (xs.getD i 0 - xs.getD j 0) 0 := by
        intro hc
        have hc' := Cg.sub_zero hc
        by_cases hlt : i < j
        · exact h i j hlt (by omega) hc'
        · exact h j i (by omega) him hc'.symm
      exact ih (by omega) (prime hz hne)

/-- what the reference adds for the place i: n places in all -/
def termAt (xs ys : List Int) (n : Nat) (t : Int) (i : Nat) : Int :=
  overOf (upTo xs i t (ys.getD i 0) n % 257) (upTo xs i (xs.getD i 0) 1 n)

/-- the sum of the terms of the first k places -/
def atTo (xs ys : List Int) (n : Nat) (t : Int) : Nat → Int
  | 0 => 0
  | i + 1 => (atTo xs ys n t i + termAt xs ys n t i) % 257

/-- the reference's At -/
def atR (xs ys : List Int) (t : Int) : Int := atTo xs ys xs.length t xs.length

theorem atTo_range (xs ys : List Int) (n : Nat) (t : Int) (k : Nat) : 0 ≤ atTo xs ys n t k ∧ atTo xs ys n t k ≤ 256 := by
  cases k with
  | zero => simp [atTo]
  | succ k => unfold atTo; exact mod_range _

theorem atR_range (xs ys : List Int) (t : Int) : 0 ≤ atR xs ys t ∧ atR xs ys t ≤ 256 := atTo_range ..

/-- the sum as a polynomial -/
def lagTo (xs ys : List Int) (n : Nat) : Nat → List Int
  | 0 => List.replicate n 0
  | i + 1 => addL (lagTo xs ys n i) (smul (ys.getD i 0 * inv (ev (prodTo xs i n) (xs.getD i 0))) (prodTo xs i n))

theorem lagTo_length (xs ys : List Int) (n k : Nat) (hk : k ≤ n) : (lagTo xs ys n k).length = n := by
  induction k with
  | zero => simp [lagTo]
  | succ i ih =>
    have h1 := ih (by omega)
    have h2 : (smul (ys.getD i 0 * inv (ev (prodTo xs i n) (xs.getD i 0))) (prodTo xs i n)).length = n := by rw [smul_length, prodTo_length, if_pos (by omega)]
    unfold lagTo
    rw [addL_length (by rw [h1, h2]), h1]

theorem ev_replicate (n : Nat) (t : Int) : ev (List.replicate n 0) t = 0 := by
  induction n with
  | zero => rfl
  | succ n ih => show 0 + t * ev (List.replicate n 0) t = 0; rw [ih]; simp

theorem lagTo_ev (xs ys : List Int) (n : Nat) (h : ApartTo xs n) (t : Int) (k : Nat) (hk : k ≤ n) : Cg (ev (lagTo xs ys n k) t) (atTo xs ys n t k) := by
  induction k with
  | zero => rw [lagTo, ev_replicate]; exact Cg.refl _
  | succ i ih =>
    have h1 := lagTo_length xs ys n i (by omega)
    have h2 : (smul (ys.getD i 0 * inv (ev (prodTo xs i n) (xs.getD i 0))) (prodTo xs i n)).length = n := by rw [smul_length, prodTo_length, if_pos (by omega)]
    have hd : Cg (upTo xs i (xs.getD i 0) 1 n) (ev (prodTo xs i n) (xs.getD i 0)) := (upTo_cg xs i _ 1 n).trans (Cg.of_eq (by (simp only [Int.mul_add, Int.add_mul, Int.mul_sub, Int.sub_mul, Int.mul_assoc, Int.mul_left_comm, Int.mul_comm, Int.one_mul, Int.mul_one, Int.pow_succ] <;> omega)))
    have hd0 : ¬ Cg (upTo xs i (xs.getD i 0) 1 n) 0 := fun hz => prodTo_own xs i n n (by omega) (Nat.le_refl _) h (hd.symm.trans hz)
    unfold lagTo atTo termAt
    rw [ev_addL _ _ _ (by rw [h1, h2]), ev_smul, overOf_eq (mod_range _) hd0]
    refine (Cg.add (ih (by omega)) ?_).trans (Cg.mod _).symm
    refine Cg.trans ?_ (Cg.mod _).symm
    have hu := upTo_cg xs i t (ys.getD i 0) n
    have e : Cg (upTo xs i t (ys.getD i 0) n % 257 * inv (upTo xs i (xs.getD i 0) 1 n)) (ys.getD i 0 * ev (prodTo xs i n) t * inv (ev (prodTo xs i n) (xs.getD i 0))) :=
      Cg.mul ((Cg.mod _).trans hu) (by rw [inv_cg hd]; exact Cg.refl _)
    exact (Cg.of_eq (by (simp only [Int.mul_add, Int.add_mul, Int.mul_sub, Int.sub_mul, Int.mul_assoc, Int.mul_left_comm, Int.mul_comm, Int.one_mul, Int.mul_one, Int.pow_succ] <;> omega))).trans e.symm

theorem atTo_at (xs ys : List Int) (n : Nat) (h : ApartTo xs n) (m k : Nat) (hk : k ≤ n) (hm : m < n) : Cg (atTo xs ys n (xs.getD m 0) k) (if m < k then ys.getD m 0 else 0) := by
  induction k with
  | zero => exact Cg.refl _
  | succ i ih =>
    have hd : Cg (upTo xs i (xs.getD i 0) 1 n) (ev (prodTo xs i n) (xs.getD i 0)) := (upTo_cg xs i _ 1 n).trans (Cg.of_eq (by (simp only [Int.mul_add, Int.add_mul, Int.mul_sub, Int.sub_mul, Int.mul_assoc, Int.mul_left_comm, Int.mul_comm, Int.one_mul, Int.mul_one, Int.pow_succ] <;> omega)))
    have hd0 : ¬ Cg (upTo xs i (xs.getD i 0) 1 n) 0 := fun hz => prodTo_own xs i n n (by omega) (Nat.le_refl _) h (hd.symm.trans hz)
    have hu := upTo_cg xs i (xs.getD m 0) (ys.getD i 0) n
    unfold atTo termAt
    rw [overOf_eq (mod_range _) hd0]
    have ih' := ih (by omega)
    by_cases hmi : m = i
    · subst hmi
      rw [if_neg (by omega)] at ih'
      rw [if_pos (by omega)]
      refine (Cg.mod _).trans ((Cg.add ih' (Cg.refl _)).trans ?_)
      have e : Cg (upTo xs m (xs.getD m 0) (ys.getD m 0) n % 257 * inv (upTo xs m (xs.getD m 0) 1 n)) (ys.getD m 0 * (upTo xs m (xs.getD m 0) 1 n * inv (upTo xs m (xs.getD m 0) 1 n))) :=
        (Cg.mul ((Cg.mod _).trans (hu.trans (Cg.mul_left _ hd.symm))) (Cg.refl _)).trans (Cg.of_eq (by (simp only [Int.mul_add, Int.add_mul, Int.mul_sub, Int.sub_mul, Int.mul_assoc, Int.mul_left_comm, Int.mul_comm, Int.one_mul, Int.mul_one, Int.pow_succ] <;> omega)))
      have e2 := Cg.mul_left (ys.getD m 0) (mul_inv hd0)
      have e3 := ((Cg.mod _).trans e).trans e2
      unfold Cg at *
      omega
    · have hz : ev (prodTo xs i n) (xs.getD m 0) = 0 := prodTo_root xs i n m hm hmi
      rw [hz, Int.mul_zero] at hu
      have e : Cg (upTo xs i (xs.getD m 0) (ys.getD i 0) n % 257 * inv (upTo xs i (xs.getD i 0) 1 n)) (0 * inv (upTo xs i (xs.getD i 0) 1 n)) := Cg.mul ((Cg.mod _).trans hu) (Cg.refl _)
      rw [Int.zero_mul] at e
      have e3 := (Cg.mod _).trans e
      by_cases hlt : m < i
      · rw [if_pos hlt] at ih'
        rw [if_pos (by omega)]
        unfold Cg at *
        omega
      · rw [if_neg hlt] at ih'
        rw [if_neg (by omega)]
        unfold Cg at *
        omega

/-- p, of as many coefficients as there are places, has the values ys at the places xs -/
def Interp (xs ys p : List Int) : Prop := p.length = xs.length ∧ ∀ i, i < xs.length → Cg (ev p (xs.getD i 0)) (ys.getD i 0)

theorem apart_of_to (xs : List Int) (h : ApartTo xs xs.length) : Apart xs := by
  unfold Apart
  rw [List.pairwise_iff_getElem]
  intro i j hi hj hij
  have := h i j hij hj
  rwa [getD_lt _ _ hi, getD_lt _ _ hj] at this

theorem interp_unique {xs ys p q : List Int} (h : ApartTo xs xs.length) (hp : Interp xs ys p) (hq : Interp xs ys q) : CgL p q := by
  refine unique (xs := xs) (by rw [hp.1, hq.1]) (by rw [hp.1]; exact Nat.le_refl _) (apart_of_to xs h) fun x hx => ?_
  obtain ⟨i, hi, rfl⟩ := List.getElem_of_mem hx
  have e : xs[i] = xs.getD i 0 := by rw [getD_lt _ _ hi]
  rw [e]
  exact (hp.2 i hi).trans (hq.2 i hi).symm

/-- THE REFERENCE's VALUE IS THAT OF ANY POLYNOMIAL THROUGH THE POINTS -/
theorem atR_interp {xs ys p : List Int} (h : ApartTo xs xs.length) (hp : Interp xs ys p) (t : Int) : atR xs ys t = ev p t % 257 := by
  have hl : Interp xs ys (lagTo xs ys xs.length xs.length) := by
    refine ⟨lagTo_length _ _ _ _ (Nat.le_refl _), fun i hi => ?_⟩
    have h1 := lagTo_ev xs ys xs.length h (xs.getD i 0) xs.length (Nat.le_refl _)
    have h2 := atTo_at xs ys xs.length h i xs.length (Nat.le_refl _) hi
    rw [if_pos hi] at h2
    exact h1.trans h2
  have h1 := ev_cgL _ _ t (interp_unique h hp hl)
  have h2 := lagTo_ev xs ys xs.length h t xs.length (Nat.le_refl _)
  exact Cg.eq_mod ((h1.trans h2).symm) (atR_range ..)

end Go.Proofs.Ytbljihhelladbaa.Fld
