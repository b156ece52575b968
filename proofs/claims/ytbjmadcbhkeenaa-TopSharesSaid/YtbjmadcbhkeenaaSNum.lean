/-
  Numbers modulo 257, plain: the field, Lagrange's sum, Newton's polynomial. No program, no condition.
-/
/- Plain arithmetic modulo 257 over the integers: congruence, inverses, polynomials as lists, a polynomial with too many roots is nought, Lagrange's polynomial. No condition. Nothing of the program is imported. -/
namespace Go.Proofs.Ytbjmadcbhkeenaa.Fld
set_option linter.unusedVariables false
set_option linter.unusedSimpArgs false
theorem getD_lt {α : Type} (l : List α) (d : α) {i : Nat} (h : i < l.length) : l.getD i d = l[i] := by simp [List.getD_eq_getElem?_getD, h]
theorem getD_ge {α : Type} (l : List α) (d : α) {i : Nat} (h : l.length ≤ i) : l.getD i d = d := by simp [List.getD_eq_getElem?_getD, h]
/-- congruent modulo 257 -/
def Cg (a b : Int) : Prop := a % 257 = b % 257
theorem Cg.refl (a : Int) : Cg a a := rfl
theorem Cg.symm {a b : Int} (h : Cg a b) : Cg b a := Eq.symm h
theorem Cg.trans {a b c : Int} (h : Cg a b) (k : Cg b c) : Cg a c := Eq.trans h k
theorem Cg.of_eq {a b : Int} (h : a = b) : Cg a b := by rw [h]; rfl
theorem Cg.mod (a : Int) : Cg (a % 257) a := by unfold Cg; omega
theorem Cg.add {a b c d : Int} (h : Cg a b) (k : Cg c d) : Cg (a + c) (b + d) := by unfold Cg at *; omega
theorem Cg.mul {a b c d : Int} (h : Cg a b) (k : Cg c d) : Cg (a * c) (b * d) := by
  unfold Cg at *
  rw [Int.mul_emod, h, k, ← Int.mul_emod]
theorem Cg.mul_left (a : Int) {b c : Int} (h : Cg b c) : Cg (a * b) (a * c) := Cg.mul (Cg.refl a) h
theorem Cg.mul_right (a : Int) {b c : Int} (h : Cg b c) : Cg (b * a) (c * a) := Cg.mul h (Cg.refl a)
theorem Cg.eq {a b : Int} (h : Cg a b) (ha : 0 ≤ a ∧ a ≤ 256) (hb : 0 ≤ b ∧ b ≤ 256) : a = b := by unfold Cg at h; omega
theorem Cg.eq_mod {a b : Int} (h : Cg a b) (ha : 0 ≤ a ∧ a ≤ 256) : a = b % 257 := by unfold Cg at h; omega
theorem Cg.sub_zero {a b : Int} (h : Cg (a - b) 0) : Cg a b := by unfold Cg at *; omega
theorem Cg.zero_sub {a b : Int} (h : Cg a b) : Cg (a - b) 0 := by unfold Cg at *; omega
theorem mod_range (a : Int) : 0 ≤ a % 257 ∧ a % 257 ≤ 256 := by omega
/-! ### powers and inverses -/
/-- b to the n, reduced at each step, by squaring: as the program reckons it; n counts the steps that are left -/
def powGo : Nat → Nat → Int → Int → Int
  | 0, _, power, _ => power
  | f + 1, n, power, base => if n = 0 then power else powGo f (n / 2) (if n % 2 = 1 then power * base % 257 else power) (base * base % 257)
/-- the number that, times b, is 1 (of 0: 0) -/
def inv (b : Int) : Int := powGo 9 255 1 b % 257
theorem inv_table : ∀ b : Fin 257, b.val ≠ 0 → (b.val : Int) * inv b.val % 257 = 1 := by decide +kernel
theorem powGo_cg : ∀ (f n : Nat) (p q b c : Int), Cg p q → Cg b c → Cg (powGo f n p b) (powGo f n q c)
  | 0, _, _, _, _, _, hp, _ => hp
  | f + 1, n, p, q, b, c, hp, hb => by
    unfold powGo
    by_cases h : n = 0
    · rw [if_pos h, if_pos h]; exact hp
    · rw [if_neg h, if_neg h]
      refine powGo_cg f _ _ _ _ _ ?_ ?_
      · by_cases h2 : n % 2 = 1
        · rw [if_pos h2, if_pos h2]; exact ((Cg.mod _).trans (Cg.mul hp hb)).trans (Cg.mod _).symm
        · rw [if_neg h2, if_neg h2]; exact hp
      · exact ((Cg.mod _).trans (Cg.mul hb hb)).trans (Cg.mod _).symm
theorem inv_cg {b c : Int} (h : Cg b c) : inv b = inv c := powGo_cg 9 255 1 1 b c (Cg.refl 1) h
theorem mul_inv {b : Int} (h : ¬ Cg b 0) : Cg (b * inv b) 1 := by
  have hr := mod_range b
  have h1 := inv_table ⟨(b % 257).toNat, by omega⟩ (by unfold Cg at h; show (b % 257).toNat ≠ 0; omega)
  have h2 : (((b % 257).toNat : Nat) : Int) = b % 257 := by omega
  simp only [h2] at h1
  have h3 : inv (b % 257) = inv b := inv_cg (Cg.mod b)
  rw [h3] at h1
  exact (Cg.mul_right (inv b) (Cg.mod b).symm).trans (by unfold Cg; rw [h1]; rfl)
theorem prime {a b : Int} (h : Cg (a * b) 0) (ha : ¬ Cg a 0) : Cg b 0 := by
  have h1 : Cg (inv a * (a * b)) (inv a * 0) := Cg.mul_left _ h
  have h2 : Cg (a * inv a * b) (1 * b) := Cg.mul_right b (mul_inv ha)
  have e : inv a * (a * b) = a * inv a * b := by rw [← Int.mul_assoc, Int.mul_comm (inv a) a]
  rw [e] at h1
  have h3 := h2.symm.trans h1
  simpa using h3
/-! ### polynomials -/
def ev : List Int → Int → Int
  | [], _ => 0
  | c :: l, x => c + x * ev l x
/-- the values of the tails: the quotient by (X - a) -/
def tails (a : Int) : List Int → List Int
  | [] => []
  | c :: l => ev (c :: l) a :: tails a l
theorem tails_length (a : Int) (l : List Int) : (tails a l).length = l.length := by
  induction l with
  | nil => rfl
  | cons c l ih => simp [tails, ih]
theorem ev_tails (c : Int) (l : List Int) (a x : Int) : ev (c :: l) x = ev (c :: l) a + (x - a) * ev (tails a l) x := by
  induction l generalizing c with
  | nil => simp [ev, tails]
  | cons d l ih =>
    have h := ih d
    show c + x * ev (d :: l) x = c + a * ev (d :: l) a + (x - a) * (ev (d :: l) a + x * ev (tails a l) x)
    rw [h]
    (simp only [Int.mul_add, Int.add_mul, Int.mul_sub, Int.sub_mul, Int.mul_assoc, Int.mul_left_comm, Int.mul_comm, Int.one_mul, Int.mul_one, Int.pow_succ] <;> omega)
theorem coefs_of_tails (a : Int) (l : List Int) (h : ∀ c ∈ tails a l, Cg c 0) : ∀ c ∈ l, Cg c 0 := by
  induction l with
  | nil => intro c hc; cases hc
  | cons d l ih =>
    have hl : ∀ c ∈ l, Cg c 0 := ih fun c hc => h c (List.mem_cons_of_mem _ hc)
    have h0 : Cg (ev (d :: l) a) 0 := h _ (List.mem_cons_self ..)
    have he : Cg (ev l a) 0 := by
      cases l with
      | nil => exact Cg.refl 0
      | cons e l => exact h _ (List.mem_cons_of_mem _ (List.mem_cons_self ..))
    intro c hc
    cases List.mem_cons.1 hc with
    | inl e =>
      subst e
      have h1 : Cg (a * ev l a) (a * 0) := Cg.mul_left a he
      have h2 : ev (c :: l) a = c + a * ev l a := rfl
      rw [h2] at h0
      unfold Cg at *
      omega
    | inr e => exact hl c e
/-- no two of these are congruent -/
def Apart (xs : List Int) : Prop := xs.Pairwise fun a b => ¬ Cg a b
/-- A POLYNOMIAL THAT IS NOUGHT AT AS MANY PLACES AS IT HAS COEFFICIENTS IS NOUGHT -/
theorem roots : ∀ (p xs : List Int), p.length ≤ xs.length → Apart xs → (∀ x ∈ xs, Cg (ev p x) 0) → ∀ c ∈ p, Cg c 0
  | [], _, _, _, _ => fun c hc => by cases hc
  | c :: l, [], h, _, _ => by simp at h
  | c :: l, a :: xs, h, hap, hz => by
    have ha : Cg (ev (c :: l) a) 0 := hz a (List.mem_cons_self ..)
    have hq : ∀ x ∈ xs, Cg (ev (tails a l) x) 0 := by
      intro x hx
      have h1 : Cg (ev (c :: l) x) 0 := hz x (List.mem_cons_of_mem _ hx)
      rw [ev_tails c l a x] at h1
      have h2 : Cg ((x - a) * ev (tails a l) x) 0 := by unfold Cg at *; omega
      refine prime h2 fun h3 => ?_
      exact (List.pairwise_cons.1 hap).1 x hx (Cg.sub_zero h3).symm
    have hl : ∀ c ∈ l, Cg c 0 := coefs_of_tails a l (roots (tails a l) xs (by rw [tails_length]; simpa using h) (List.pairwise_cons.1 hap).2 hq)
    have he : Cg (ev l a) 0 := by
      clear hq h hz ha hap
      induction l with
      | nil => exact Cg.refl 0
      | cons d l ih =>
        have h1 : Cg d 0 := hl d (List.mem_cons_self ..)
        have h2 : Cg (ev l a) 0 := ih fun c hc => hl c (List.mem_cons_of_mem _ hc)
        have h3 : Cg (a * ev l a) (a * 0) := Cg.mul_left a h2
        show Cg (d + a * ev l a) 0
        unfold Cg at *; omega
    intro d hd
    cases List.mem_cons.1 hd with
    | inl e =>
      subst e
      have h1 : Cg (a * ev l a) (a * 0) := Cg.mul_left a he
      have h2 : ev (d :: l) a = d + a * ev l a := rfl
      rw [h2] at ha
      unfold Cg at *
      omega
    | inr e => exact hl d e
/-! ### sums, multiples, products -/
def addL (p q : List Int) : List Int := List.zipWith (· + ·) p q
def subL (p q : List Int) : List Int := List.zipWith (· - ·) p q
def smul (k : Int) (p : List Int) : List Int := p.map (k * ·)
theorem ev_addL : ∀ (p q : List Int) (x : Int), p.length = q.length → ev (addL p q) x = ev p x + ev q x
  | [], [], _, _ => rfl
  | [], _ :: _, _, h => by simp at h
  | _ :: _, [], _, h => by simp at h
  | a :: p, b :: q, x, h => by
    have ih := ev_addL p q x (by simpa using h)
    show (a + b) + x * ev (addL p q) x = (a + x * ev p x) + (b + x * ev q x)
    rw [ih]; (simp only [Int.mul_add, Int.add_mul, Int.mul_sub, Int.sub_mul, Int.mul_assoc, Int.mul_left_comm, Int.mul_comm, Int.one_mul, Int.mul_one, Int.pow_succ] <;> omega)
theorem ev_subL : ∀ (p q : List Int) (x : Int), p.length = q.length → ev (subL p q) x = ev p x - ev q x
  | [], [], _, _ => rfl
  | [], _ :: _, _, h => by simp at h
  | _ :: _, [], _, h => by simp at h
  | a :: p, b :: q, x, h => by
    have ih := ev_subL p q x (by simpa using h)
    show (a - b) + x * ev (subL p q) x = (a + x * ev p x) - (b + x * ev q x)
    rw [ih]; (simp only [Int.mul_add, Int.add_mul, Int.mul_sub, Int.sub_mul, Int.mul_assoc, Int.mul_left_comm, Int.mul_comm, Int.one_mul, Int.mul_one, Int.pow_succ] <;> omega)
theorem ev_smul (k : Int) (p : List Int) (x : Int) : ev (smul k p) x = k * ev p x := by
  induction p with
  | nil => simp [smul, ev]
  | cons c p ih =>
    show k * c + x * ev (smul k p) x = k * (c + x * ev p x)
    rw [ih]; (simp only [Int.mul_add, Int.add_mul, Int.mul_sub, Int.sub_mul, Int.mul_assoc, Int.mul_left_comm, Int.mul_comm, Int.one_mul, Int.mul_one, Int.pow_succ] <;> omega)
theorem addL_length {p q : List Int} (h : p.length = q.length) : (addL p q).length = p.length := by simp [addL, h]
theorem subL_length {p q : List Int} (h : p.length = q.length) : (subL p q).length = p.length := by simp [subL, h]
theorem smul_length (k : Int) (p : List Int) : (smul k p).length = p.length := by simp [smul]
/-- congruent, coefficient by coefficient -/
def CgL (p q : List Int) : Prop := p.length = q.length ∧ ∀ i, Cg (p.getD i 0) (q.getD i 0)
theorem subL_getD : ∀ (p q : List Int) (i : Nat), p.length = q.length → (subL p q).getD i 0 = p.getD i 0 - q.getD i 0
  | [], [], _, _ => by simp [subL]
  | [], _ :: _, _, h => by simp at h
  | _ :: _, [], _, h => by simp at h
  | a :: p, b :: q, 0, _ => by simp [subL]
  | a :: p, b :: q, i + 1, h => by
    have := subL_getD p q i (by simpa using h)
    simpa [subL] using this
theorem unique {p q xs : List Int} (hl : p.length = q.length) (hx : p.length ≤ xs.length) (hap : Apart xs) (h : ∀ x ∈ xs, Cg (ev p x) (ev q x)) : CgL p q := by
  refine ⟨hl, fun i => ?_⟩
  have hz := roots (subL p q) xs (by rw [subL_length hl]; exact hx) hap (fun x hxm => by rw [ev_subL p q x hl]; exact Cg.zero_sub (h x hxm))
  apply Cg.sub_zero
  rw [← subL_getD p q i hl]
  by_cases hi : i < (subL p q).length
  · rw [getD_lt _ _ hi]; exact hz _ (List.getElem_mem hi)
  · rw [getD_ge _ _ (by omega)]; exact Cg.refl 0
theorem ev_cgL : ∀ (p q : List Int) (x : Int), CgL p q → Cg (ev p x) (ev q x)
  | [], [], _, _ => Cg.refl _
  | [], _ :: _, _, h => by have := h.1; simp at this
  | _ :: _, [], _, h => by have := h.1; simp at this
  | a :: p, b :: q, x, h => by
    have h0 : Cg a b := by simpa using h.2 0
    have ih := ev_cgL p q x ⟨by simpa using h.1, fun i => by simpa using h.2 (i + 1)⟩
    exact Cg.add h0 (Cg.mul_left x ih)
/-- times (X - a) -/
def mulLin (a : Int) (p : List Int) : List Int := subL (0 :: p) (smul a p ++ [0])
theorem ev_append : ∀ (p q : List Int) (x : Int), ev (p ++ q) x = ev p x + x ^ p.length * ev q x
  | [], q, x => by simp [ev]
  | a :: p, q, x => by
    have ih := ev_append p q x
    show a + x * ev (p ++ q) x = (a + x * ev p x) + x ^ (p.length + 1) * ev q x
    rw [ih, Int.pow_succ]; (simp only [Int.mul_add, Int.add_mul, Int.mul_sub, Int.sub_mul, Int.mul_assoc, Int.mul_left_comm, Int.mul_comm, Int.one_mul, Int.mul_one, Int.pow_succ] <;> omega)
theorem mulLin_length (a : Int) (p : List Int) : (mulLin a p).length = p.length + 1 := by
  rw [mulLin, subL_length (by simp [smul])]; simp
theorem ev_mulLin (a : Int) (p : List Int) (x : Int) : ev (mulLin a p) x = (x - a) * ev p x := by
  rw [mulLin, ev_subL _ _ _ (by simp [smul]), ev_append, ev_smul]
  simp only [ev]
  (simp only [Int.mul_add, Int.add_mul, Int.mul_sub, Int.sub_mul, Int.mul_assoc, Int.mul_left_comm, Int.mul_comm, Int.one_mul, Int.mul_one, Int.pow_succ] <;> omega)
end Go.Proofs.Ytbjmadcbhkeenaa.Fld
/- Lagrange's value modulo 257 as the reference reckons it (from left to right, reduced at each step), and that it is the value of the one polynomial through the points. Conditions: the places differ modulo 257. Nothing of the program is imported. -/
namespace Go.Proofs.Ytbjmadcbhkeenaa.Fld
set_option linter.unusedSimpArgs false
/-- the first x from 0 to 256 with x * b = a (modulo 257); 0: there is none -/
def hit (a b : Int) (x : Nat) : Bool := (x : Int) * b % 257 == a
def overOf (a b : Int) : Int := match (List.range 257).find? (hit a b) with
  | none => 0
  | some x => (x : Int)
theorem overOf_eq {a b : Int} (ha : 0 ≤ a ∧ a ≤ 256) (hb : ¬ Cg b 0) : overOf a b = a * inv b % 257 := by
  have hr := mod_range (a * inv b)
  have hk : (((a * inv b % 257).toNat : Nat) : Int) = a * inv b % 257 := by omega
  have hit1 : (((a * inv b % 257).toNat : Nat) : Int) * b % 257 = a := by
    rw [hk]
    have h1 : Cg (a * inv b % 257 * b) (a * (b * inv b)) := (Cg.mul_right b (Cg.mod _)).trans (Cg.of_eq (by (simp only [Int.mul_add, Int.add_mul, Int.mul_sub, Int.sub_mul, Int.mul_assoc, Int.mul_left_comm, Int.mul_comm, Int.one_mul, Int.mul_one, Int.pow_succ] <;> omega)))
    have h2 : Cg (a * (b * inv b)) (a * 1) := Cg.mul_left a (mul_inv hb)
    have h3 := h1.trans h2
    unfold Cg at h3
    omega
  have huniq : ∀ x : Nat, x < 257 → (x : Int) * b % 257 = a → (x : Int) = a * inv b % 257 := by
    intro x hx h
    have h1 : Cg ((x : Int) * b * inv b) (a * inv b) := Cg.mul_right _ (by unfold Cg; omega)
    have h2 : Cg ((x : Int) * (b * inv b)) ((x : Int) * 1) := Cg.mul_left _ (mul_inv hb)
    have h3 : Cg (x : Int) (a * inv b) := by
      have e : (x : Int) * b * inv b = (x : Int) * (b * inv b) := Int.mul_assoc ..
      rw [e] at h1
      simpa using h2.symm.trans h1
    unfold Cg at h3
    omega
  unfold overOf
  cases hf : (List.range 257).find? (hit a b) with
  | none =>
    have := List.find?_eq_none.1 hf (a * inv b % 257).toNat (by simp; omega)
    exact absurd (by unfold hit; rw [hit1]; simp) this
  | some x =>
    have h1 := List.find?_some hf
    have h2 := List.mem_of_find?_eq_some hf
    exact huniq x (by simpa using h2) (by simpa [hit] using h1)
/-- the product over the first n places but the i-th, of (t - place), times u, reduced at each step -/
def upTo (xs : List Int) (i : Nat) (t u : Int) : Nat → Int
  | 0 => u
  | j + 1 => if j = i then upTo xs i t u j else upTo xs i t u j * (t - xs.getD j 0) % 257
/-- the same product, as a polynomial in t -/
def prodTo (xs : List Int) (i : Nat) : Nat → List Int
  | 0 => [1]
  | j + 1 => if j = i then prodTo xs i j else mulLin (xs.getD j 0) (prodTo xs i j)
theorem upTo_cg (xs : List Int) (i : Nat) (t u : Int) (n : Nat) : Cg (upTo xs i t u n) (u * ev (prodTo xs i n) t) := by
  induction n with
  | zero => simp [upTo, prodTo, ev]; exact Cg.refl _
  | succ j ih =>
    unfold upTo prodTo
    by_cases h : j = i
    · rw [if_pos h, if_pos h]; exact ih
    · rw [if_neg h, if_neg h, ev_mulLin]
      exact (Cg.mod _).trans ((Cg.mul_right _ ih).trans (Cg.of_eq (by (simp only [Int.mul_add, Int.add_mul, Int.mul_sub, Int.sub_mul, Int.mul_assoc, Int.mul_left_comm, Int.mul_comm, Int.one_mul, Int.mul_one, Int.pow_succ] <;> omega))))
theorem prodTo_length (xs : List Int) (i n : Nat) : (prodTo xs i n).length = if i < n then n else n + 1 := by
  induction n with
  | zero => simp [prodTo]
  | succ j ih =>
    unfold prodTo
    by_cases h : j = i
    · rw [if_pos h, ih]; simp [h]
    · rw [if_neg h, mulLin_length, ih]
      by_cases h2 : i < j
      · rw [if_pos h2, if_pos (by omega)]
      · rw [if_neg h2, if_neg (by omega)]
theorem prodTo_root (xs : List Int) (i n k : Nat) (hk : k < n) (hki : k ≠ i) : ev (prodTo xs i n) (xs.getD k 0) = 0 := by
  induction n with
  | zero => omega
  | succ j ih =>
    unfold prodTo
    by_cases h : j = i
    · rw [if_pos h]; exact ih (by omega)
    · rw [if_neg h, ev_mulLin]
      by_cases h2 : k = j
      · subst h2; simp
      · rw [ih (by omega)]; simp
/-- the places differ modulo 257 -/
def ApartTo (xs : List Int) (n : Nat) : Prop := ∀ i j, i < j → j < n → ¬ Cg (xs.getD i 0) (xs.getD j 0)
theorem prodTo_own (xs : List Int) (i n : Nat) (m : Nat) (him : i < m) (hn : n ≤ m) (h : ApartTo xs m) : ¬ Cg (ev (prodTo xs i n) (xs.getD i 0)) 0 := by
  induction n with
  | zero => simp [prodTo, ev, Cg]
  | succ j ih =>
    unfold prodTo
    by_cases hj : j = i
    · rw [if_pos hj]; exact ih (by omega)
    · rw [if_neg hj, ev_mulLin]
      intro hz
      have hne : ¬ Cg (xs.getD i 0 - xs.getD j 0) 0 := by
        intro hc
        have hc' := Cg.sub_zero hc
        by_cases hlt : i < j
        · exact h i j hlt (by omega) hc'
        · exact h j i (by omega) him hc'.symm
      exact ih (by omega) (prime hz hne)
/-- what the reference adds for the place i: n places in all -/
def termAt (xs ys : List Int) (n : Nat) (t : Int) (i : Nat) : Int :=
  overOf (upTo xs i t (ys.getD i 0) n % 257) (upTo xs i (xs.getD i 0) 1 n)
/-- the sum of the terms of the first k places -/
def atTo (xs ys : List Int) (n : Nat) (t : Int) : Nat → Int
  | 0 => 0
  | i + 1 => (atTo xs ys n t i + termAt xs ys n t i) % 257
/-- the reference's At -/
def atR (xs ys : List Int) (t : Int) : Int := atTo xs ys xs.length t xs.length
theorem atTo_range (xs ys : List Int) (n : Nat) (t : Int) (k : Nat) : 0 ≤ atTo xs ys n t k ∧ atTo xs ys n t k ≤ 256 := by
  cases k with
  | zero => simp [atTo]
  | succ k => unfold atTo; exact mod_range _
theorem atR_range (xs ys : List Int) (t : Int) : 0 ≤ atR xs ys t ∧ atR xs ys t ≤ 256 := atTo_range ..
/-- the sum as a polynomial -/
def lagTo (xs ys : List Int) (n : Nat) : Nat → List Int
  | 0 => List.replicate n 0
  | i + 1 => addL (lagTo xs ys n i) (smul (ys.getD i 0 * inv (ev (prodTo xs i n) (xs.getD i 0))) (prodTo xs i n))
theorem lagTo_length (xs ys : List Int) (n k : Nat) (hk : k ≤ n) : (lagTo xs ys n k).length = n := by
  induction k with
  | zero => simp [lagTo]
  | succ i ih =>
    have h1 := ih (by omega)
    have h2 : (smul (ys.getD i 0 * inv (ev (prodTo xs i n) (xs.getD i 0))) (prodTo xs i n)).length = n := by rw [smul_length, prodTo_length, if_pos (by omega)]
    unfold lagTo
    rw [addL_length (by rw [h1, h2]), h1]
theorem ev_replicate (n : Nat) (t : Int) : ev (List.replicate n 0) t = 0 := by
  induction n with
  | zero => rfl
  | succ n ih => show 0 + t * ev (List.replicate n 0) t = 0; rw [ih]; simp
theorem lagTo_ev (xs ys : List Int) (n : Nat) (h : ApartTo xs n) (t : Int) (k : Nat) (hk : k ≤ n) : Cg (ev (lagTo xs ys n k) t) (atTo xs ys n t k) := by
  induction k with
  | zero => rw [lagTo, ev_replicate]; exact Cg.refl _
  | succ i ih =>
    have h1 := lagTo_length xs ys n i (by omega)
    have h2 : (smul (ys.getD i 0 * inv (ev (prodTo xs i n) (xs.getD i 0))) (prodTo xs i n)).length = n := by rw [smul_length, prodTo_length, if_pos (by omega)]
    have hd : Cg (upTo xs i (xs.getD i 0) 1 n) (ev (prodTo xs i n) (xs.getD i 0)) := (upTo_cg xs i _ 1 n).trans (Cg.of_eq (by (simp only [Int.mul_add, Int.add_mul, Int.mul_sub, Int.sub_mul, Int.mul_assoc, Int.mul_left_comm, Int.mul_comm, Int.one_mul, Int.mul_one, Int.pow_succ] <;> omega)))
    have hd0 : ¬ Cg (upTo xs i (xs.getD i 0) 1 n) 0 := fun hz => prodTo_own xs i n n (by omega) (Nat.le_refl _) h (hd.symm.trans hz)
    unfold lagTo atTo termAt
    rw [ev_addL _ _ _ (by rw [h1, h2]), ev_smul, overOf_eq (mod_range _) hd0]
    refine (Cg.add (ih (by omega)) ?_).trans (Cg.mod _).symm
    refine Cg.trans ?_ (Cg.mod _).symm
    have hu := upTo_cg xs i t (ys.getD i 0) n
    have e : Cg (upTo xs i t (ys.getD i 0) n % 257 * inv (upTo xs i (xs.getD i 0) 1 n)) (ys.getD i 0 * ev (prodTo xs i n) t * inv (ev (prodTo xs i n) (xs.getD i 0))) :=
      Cg.mul ((Cg.mod _).trans hu) (by rw [inv_cg hd]; exact Cg.refl _)
    exact (Cg.of_eq (by (simp only [Int.mul_add, Int.add_mul, Int.mul_sub, Int.sub_mul, Int.mul_assoc, Int.mul_left_comm, Int.mul_comm, Int.one_mul, Int.mul_one, Int.pow_succ] <;> omega))).trans e.symm
theorem atTo_at (xs ys : List Int) (n : Nat) (h : ApartTo xs n) (m k : Nat) (hk : k ≤ n) (hm : m < n) : Cg (atTo xs ys n (xs.getD m 0) k) (if m < k then ys.getD m 0 else 0) := by
  induction k with
  | zero => exact Cg.refl _
  | succ i ih =>
    have hd : Cg (upTo xs i (xs.getD i 0) 1 n) (ev (prodTo xs i n) (xs.getD i 0)) := (upTo_cg xs i _ 1 n).trans (Cg.of_eq (by (simp only [Int.mul_add, Int.add_mul, Int.mul_sub, Int.sub_mul, Int.mul_assoc, Int.mul_left_comm, Int.mul_comm, Int.one_mul, Int.mul_one, Int.pow_succ] <;> omega)))
    have hd0 : ¬ Cg (upTo xs i (xs.getD i 0) 1 n) 0 := fun hz => prodTo_own xs i n n (by omega) (Nat.le_refl _) h (hd.symm.trans hz)
    have hu := upTo_cg xs i (xs.getD m 0) (ys.getD i 0) n
    unfold atTo termAt
    rw [overOf_eq (mod_range _) hd0]
    have ih' := ih (by omega)
    by_cases hmi : m = i
    · subst hmi
      rw [if_neg (by omega)] at ih'
      rw [if_pos (by omega)]
      refine (Cg.mod _).trans ((Cg.add ih' (Cg.refl _)).trans ?_)
      have e : Cg (upTo xs m (xs.getD m 0) (ys.getD m 0) n % 257 * inv (upTo xs m (xs.getD m 0) 1 n)) (ys.getD m 0 * (upTo xs m (xs.getD m 0) 1 n * inv (upTo xs m (xs.getD m 0) 1 n))) :=
        (Cg.mul ((Cg.mod _).trans (hu.trans (Cg.mul_left _ hd.symm))) (Cg.refl _)).trans (Cg.of_eq (by (simp only [Int.mul_add, Int.add_mul, Int.mul_sub, Int.sub_mul, Int.mul_assoc, Int.mul_left_comm, Int.mul_comm, Int.one_mul, Int.mul_one, Int.pow_succ] <;> omega)))
      have e2 := Cg.mul_left (ys.getD m 0) (mul_inv hd0)
      have e3 := ((Cg.mod _).trans e).trans e2
      unfold Cg at *
      omega
    · have hz : ev (prodTo xs i n) (xs.getD m 0) = 0 := prodTo_root xs i n m hm hmi
      rw [hz, Int.mul_zero] at hu
      have e : Cg (upTo xs i (xs.getD m 0) (ys.getD i 0) n % 257 * inv (upTo xs i (xs.getD i 0) 1 n)) (0 * inv (upTo xs i (xs.getD i 0) 1 n)) := Cg.mul ((Cg.mod _).trans hu) (Cg.refl _)
      rw [Int.zero_mul] at e
      have e3 := (Cg.mod _).trans e
      by_cases hlt : m < i
      · rw [if_pos hlt] at ih'
        rw [if_pos (by omega)]
        unfold Cg at *
        omega
      · rw [if_neg hlt] at ih'
        rw [if_neg (by omega)]
        unfold Cg at *
        omega
/-- p, of as many coefficients as there are places, has the values ys at the places xs -/
def Interp (xs ys p : List Int) : Prop := p.length = xs.length ∧ ∀ i, i < xs.length → Cg (ev p (xs.getD i 0)) (ys.getD i 0)
theorem apart_of_to (xs : List Int) (h : ApartTo xs xs.length) : Apart xs := by
  unfold Apart
  rw [List.pairwise_iff_getElem]
  intro i j hi hj hij
  have := h i j hij hj
  rwa [getD_lt _ _ hi, getD_lt _ _ hj] at this
theorem interp_unique {xs ys p q : List Int} (h : ApartTo xs xs.length) (hp : Interp xs ys p) (hq : Interp xs ys q) : CgL p q := by
  refine unique (xs := xs) (by rw [hp.1, hq.1]) (by rw [hp.1]; exact Nat.le_refl _) (apart_of_to xs h) fun x hx => ?_
  obtain ⟨i, hi, rfl⟩ := List.getElem_of_mem hx
  have e : xs[i] = xs.getD i 0 := by rw [getD_lt _ _ hi]
  rw [e]
  exact (hp.2 i hi).trans (hq.2 i hi).symm
/-- THE REFERENCE's VALUE IS THAT OF ANY POLYNOMIAL THROUGH THE POINTS -/
theorem atR_interp {xs ys p : List Int} (h : ApartTo xs xs.length) (hp : Interp xs ys p) (t : Int) : atR xs ys t = ev p t % 257 := by
  have hl : Interp xs ys (lagTo xs ys xs.length xs.length) := by
    refine ⟨lagTo_length _ _ _ _ (Nat.le_refl _), fun i hi => ?_⟩
    have h1 := lagTo_ev xs ys xs.length h (xs.getD i 0) xs.length (Nat.le_refl _)
    have h2 := atTo_at xs ys xs.length h i xs.length (Nat.le_refl _) hi
    rw [if_pos hi] at h2
    exact h1.trans h2
  have h1 := ev_cgL _ _ t (interp_unique h hp hl)
  have h2 := lagTo_ev xs ys xs.length h t xs.length (Nat.le_refl _)
  exact Cg.eq_mod ((h1.trans h2).symm) (atR_range ..)
end Go.Proofs.Ytbjmadcbhkeenaa.Fld
/- Newton's polynomial modulo 257, coefficient by coefficient as the program reckons it, and that it goes through the points. Conditions: the places differ modulo 257. Nothing of the program is imported. -/
namespace Go.Proofs.Ytbjmadcbhkeenaa.Fld
set_option linter.unusedSimpArgs false
/-- a over b as the program reckons it -/
def overP (a b : Int) : Int := a * powGo 9 255 1 b % 257
theorem overP_cg (a b : Int) : Cg (overP a b) (a * inv b) := (Cg.mod _).trans (Cg.mul_left a (Cg.mod _).symm)
theorem overP_range (a b : Int) : 0 ≤ overP a b ∧ overP a b ≤ 256 := mod_range _
/-- every number is from 0 to 256 -/
def Rng (l : List Int) : Prop := ∀ c ∈ l, 0 ≤ c ∧ c ≤ 256
theorem Rng.getD {l : List Int} (h : Rng l) (i : Nat) : 0 ≤ l.getD i 0 ∧ l.getD i 0 ≤ 256 := by
  by_cases hi : i < l.length
  · rw [getD_lt _ _ hi]; exact h _ (List.getElem_mem hi)
  · rw [getD_ge _ _ (by omega)]; omega
theorem Rng.of_getD {l : List Int} (h : ∀ i, i < l.length → 0 ≤ l.getD i 0 ∧ l.getD i 0 ≤ 256) : Rng l := by
  intro c hc
  obtain ⟨i, hi, rfl⟩ := List.getElem_of_mem hc
  have := h i hi
  rwa [getD_lt _ _ hi] at this
theorem getD_set (l : List Int) (i : Nat) (v : Int) (m : Nat) : (l.set i v).getD m 0 = if m = i ∧ i < l.length then v else l.getD m 0 := by
  simp only [List.getD_eq_getElem?_getD, List.getElem?_set]
  by_cases h : i = m
  · subst h
    by_cases h2 : i < l.length
    · simp [h2]
    · simp [h2]
  · have : ¬ m = i := fun e => h e.symm
    simp [h, this]
/-- equal coefficients modulo 257, missing ones being 0: equal values -/
theorem ev_zero : ∀ (p : List Int) (x : Int), (∀ i, Cg (p.getD i 0) 0) → Cg (ev p x) 0
  | [], _, _ => Cg.refl 0
  | a :: p, x, h => by
    have h0 : Cg a 0 := by simpa using h 0
    have ih := ev_zero p x (fun i => by simpa using h (i + 1))
    have h1 := Cg.mul_left x ih
    show Cg (a + x * ev p x) 0
    unfold Cg at *
    omega
theorem ev_cgD : ∀ (p q : List Int) (x : Int), (∀ i, Cg (p.getD i 0) (q.getD i 0)) → Cg (ev p x) (ev q x)
  | [], q, x, h => (ev_zero q x fun i => by simpa using (h i).symm).symm
  | a :: p, [], x, h => ev_zero (a :: p) x fun i => by simpa using h i
  | a :: p, b :: q, x, h => Cg.add (by simpa using h 0) (Cg.mul_left x (ev_cgD p q x fun i => by simpa using h (i + 1)))
/-- the sum, missing coefficients being 0 -/
def addZ : List Int → List Int → List Int
  | [], q => q
  | a :: p, [] => a :: p
  | a :: p, b :: q => (a + b) :: addZ p q
theorem ev_addZ : ∀ (p q : List Int) (x : Int), ev (addZ p q) x = ev p x + ev q x
  | [], q, x => by simp [addZ, ev]
  | a :: p, [], x => by simp [addZ, ev]
  | a :: p, b :: q, x => by
    show (a + b) + x * ev (addZ p q) x = (a + x * ev p x) + (b + x * ev q x)
    rw [ev_addZ p q x]; (simp only [Int.mul_add, Int.add_mul, Int.mul_sub, Int.sub_mul, Int.mul_assoc, Int.mul_left_comm, Int.mul_comm, Int.one_mul, Int.mul_one, Int.pow_succ] <;> omega)
theorem getD_addZ : ∀ (p q : List Int) (i : Nat), (addZ p q).getD i 0 = p.getD i 0 + q.getD i 0
  | [], q, i => by simp [addZ]
  | a :: p, [], i => by simp [addZ]
  | a :: p, b :: q, 0 => by simp [addZ]
  | a :: p, b :: q, i + 1 => by simpa [addZ] using getD_addZ p q i
theorem getD_smul (k : Int) (p : List Int) (i : Nat) : (smul k p).getD i 0 = k * p.getD i 0 := by
  simp only [smul, List.getD_eq_getElem?_getD, List.getElem?_map]
  cases p[i]? <;> simp
/-- the first k steps of the loop over the coefficients: what has been found so far -/
def inO (f : Int) (g o : List Int) : Nat → List Int
  | 0 => o
  | k + 1 => (inO f g o k).set k (((inO f g o k).getD k 0 + f * g.getD k 0) % 257)
/-- and what is nought at all places so far, times (X - x) -/
def inN1 (g n : List Int) (k : Nat) : List Int := n.set (k + 1) ((n.getD (k + 1) 0 + g.getD k 0) % 257)
def inN (x : Int) (g : List Int) : Nat → List Int
  | 0 => List.replicate (g.length + 1) 0
  | k + 1 => (inN1 g (inN x g k) k).set k (((inN1 g (inN x g k) k).getD k 0 + (257 - x) * g.getD k 0) % 257)
theorem inO_length (f : Int) (g o : List Int) (k : Nat) : (inO f g o k).length = o.length := by
  induction k with
  | zero => rfl
  | succ k ih => simp [inO, ih]
theorem inN_length (x : Int) (g : List Int) (k : Nat) : (inN x g k).length = g.length + 1 := by
  induction k with
  | zero => simp [inN]
  | succ k ih => simp [inN, inN1, ih]
theorem inO_getD (f : Int) (g o : List Int) (k : Nat) (hk : k ≤ o.length) (m : Nat) : (inO f g o k).getD m 0 = if m < k then (o.getD m 0 + f * g.getD m 0) % 257 else o.getD m 0 := by
  induction k with
  | zero => simp [inO]
  | succ k ih =>
    have ih' := ih (by omega)
    unfold inO
    rw [getD_set, inO_length]
    by_cases h : m = k
    · subst h
      rw [if_pos ⟨rfl, by omega⟩, ih', if_neg (by omega), if_pos (by omega)]
    · rw [if_neg (by omega), ih']
      by_cases h2 : m < k
      · rw [if_pos h2, if_pos (by omega)]
      · rw [if_neg h2, if_neg (by omega)]
theorem inO_rng {f : Int} {g o : List Int} (ho : Rng o) (k : Nat) : Rng (inO f g o k) := by
  induction k with
  | zero => exact ho
  | succ k ih =>
    refine Rng.of_getD fun i _ => ?_
    unfold inO
    rw [getD_set]
    split
    · exact mod_range _
    · exact ih.getD i
theorem inN1_getD (g n : List Int) (k m : Nat) (hn : k + 1 < n.length) : (inN1 g n k).getD m 0 = if m = k + 1 then (n.getD (k + 1) 0 + g.getD k 0) % 257 else n.getD m 0 := by
  unfold inN1
  rw [getD_set]
  by_cases h : m = k + 1
  · rw [if_pos ⟨h, hn⟩, if_pos h]
  · rw [if_neg (fun e => h e.1), if_neg h]
theorem inN1_rng {g n : List Int} (hn : Rng n) (k : Nat) : Rng (inN1 g n k) := by
  refine Rng.of_getD fun i _ => ?_
  unfold inN1
  rw [getD_set]
  split
  · exact mod_range _
  · exact hn.getD i
theorem inN_rng (x : Int) (g : List Int) (k : Nat) : Rng (inN x g k) := by
  induction k with
  | zero => intro c hc; have := (List.mem_replicate.1 hc).2; omega
  | succ k ih =>
    refine Rng.of_getD fun i _ => ?_
    unfold inN
    rw [getD_set]
    split
    · exact mod_range _
    · exact (inN1_rng ih k).getD i
theorem inN_getD (x : Int) (g : List Int) (k : Nat) (hk : k ≤ g.length) (m : Nat) :
    Cg ((inN x g k).getD m 0) ((if 1 ≤ m ∧ m ≤ k then g.getD (m - 1) 0 else 0) + (if m < k then (257 - x) * g.getD m 0 else 0)) := by
  induction k generalizing m with
  | zero =>
    have e : (inN x g 0).getD m 0 = 0 := by
      simp only [inN, List.getD_eq_getElem?_getD, List.getElem?_replicate]
      split <;> rfl
    rw [e, if_neg (by omega), if_neg (by omega)]
    exact Cg.refl _
  | succ k ih =>
    have ih' := fun m => ih (by omega) m
    unfold inN
    rw [getD_set]
    have hl1 : (inN1 g (inN x g k) k).length = g.length + 1 := by simp [inN1, inN_length]
    rw [hl1]
    have hlt : k + 1 < (inN x g k).length := by rw [inN_length]; omega
    by_cases h : m = k
    · subst h
      rw [if_pos ⟨rfl, by omega⟩, inN1_getD _ _ _ _ hlt, if_neg (by omega), if_pos (show m < m + 1 by omega)]
      have h1 := ih' m
      rw [if_neg (show ¬ m < m by omega)] at h1
      by_cases hm : 1 ≤ m
      · rw [if_pos ⟨hm, Nat.le_refl _⟩] at h1
        rw [if_pos ⟨hm, by omega⟩]
        unfold Cg at *; omega
      · rw [if_neg (by omega)] at h1
        rw [if_neg (by omega)]
        unfold Cg at *; omega
    · rw [if_neg (by omega), inN1_getD _ _ _ _ hlt]
      by_cases h1 : m = k + 1
      · subst h1
        rw [if_pos rfl, if_pos ⟨by omega, Nat.le_refl _⟩, if_neg (by omega)]
        have h2 := ih' (k + 1)
        rw [if_neg (by omega), if_neg (by omega)] at h2
        simp only [Nat.add_sub_cancel]
        unfold Cg at *; omega
      · rw [if_neg h1]
        have h2 := ih' m
        by_cases hm : m < k
        · rw [if_pos hm] at h2
          rw [if_pos (show m < k + 1 by omega)]
          by_cases hm1 : 1 ≤ m
          · rw [if_pos ⟨hm1, by omega⟩] at h2
            rw [if_pos ⟨hm1, by omega⟩]; exact h2
          · rw [if_neg (by omega)] at h2
            rw [if_neg (by omega)]; exact h2
        · rw [if_neg (by omega), if_neg hm] at h2
          rw [if_neg (by omega), if_neg (by omega)]; exact h2
theorem inO_ev (f : Int) (g o : List Int) (hl : g.length ≤ o.length) (t : Int) : Cg (ev (inO f g o g.length) t) (ev o t + f * ev g t) := by
  have h := ev_cgD (inO f g o g.length) (addZ o (smul f g)) t fun m => by
    rw [inO_getD _ _ _ _ hl, getD_addZ, getD_smul]
    by_cases hm : m < g.length
    · rw [if_pos hm]; exact Cg.mod _
    · rw [if_neg hm, getD_ge g 0 (by omega)]; exact Cg.of_eq (by simp)
  rwa [ev_addZ, ev_smul] at h
theorem inN_ev (x : Int) (g : List Int) (t : Int) : Cg (ev (inN x g g.length) t) ((t - x) * ev g t) := by
  have h := ev_cgD (inN x g g.length) (addZ (0 :: g) (smul (257 - x) g)) t fun m => by
    rw [getD_addZ, getD_smul]
    refine (inN_getD x g g.length (Nat.le_refl _) m).trans (Cg.of_eq ?_)
    cases m with
    | zero =>
      by_cases hm : 0 < g.length
      · rw [if_neg (by omega), if_pos hm]; simp
      · rw [if_neg (by omega), if_neg hm, getD_ge g 0 (by omega)]; simp
    | succ m =>
      by_cases hm : m + 1 ≤ g.length
      · rw [if_pos ⟨by omega, hm⟩]
        by_cases h2 : m + 1 < g.length
        · rw [if_pos h2]; simp
        · rw [if_neg h2, getD_ge g 0 (i := m + 1) (by omega)]; simp
      · rw [if_neg (by omega), if_neg (by omega), getD_ge g 0 (i := m + 1) (by omega)]
        simp only [List.getD_cons_succ]
        rw [getD_ge g 0 (i := m) (by omega)]; simp
  rw [ev_addZ, ev_smul] at h
  refine h.trans ?_
  have e : ev (0 :: g) t + (257 - x) * ev g t = (t - x) * ev g t + 257 * ev g t := by simp only [ev]; (simp only [Int.mul_add, Int.add_mul, Int.mul_sub, Int.sub_mul, Int.mul_assoc, Int.mul_left_comm, Int.mul_comm, Int.one_mul, Int.mul_one, Int.pow_succ] <;> omega)
  rw [e]
  unfold Cg; omega
/-- the whole: what has been found, and what is nought at the places so far, behind i places -/
def thr (xs ys : List Int) : Nat → List Int × List Int
  | 0 => (List.replicate xs.length 0, [1])
  | i + 1 =>
    let o := (thr xs ys i).1
    let g := (thr xs ys i).2
    let x := xs.getD i 0
    (inO (overP ((ys.getD i 0 - ev o x) % 257) (ev g x % 257)) g o g.length, inN x g g.length)
/-- the product of (t - place) over the first i places -/
def prodAll (xs : List Int) (t : Int) : Nat → Int
  | 0 => 1
  | i + 1 => (t - xs.getD i 0) * prodAll xs t i
theorem prodAll_root (xs : List Int) (i k : Nat) (h : k < i) : prodAll xs (xs.getD k 0) i = 0 := by
  induction i with
  | zero => omega
  | succ i ih =>
    unfold prodAll
    by_cases e : k = i
    · subst e; simp
    · rw [ih (by omega)]; simp
theorem prodAll_ne (xs : List Int) (n i k : Nat) (h : ApartTo xs n) (hi : i ≤ k) (hk : k < n) : ¬ Cg (prodAll xs (xs.getD k 0) i) 0 := by
  induction i with
  | zero => simp [prodAll, Cg]
  | succ i ih =>
    unfold prodAll
    intro hz
    refine ih (by omega) (prime hz fun hc => ?_)
    exact h i k (by omega) hk (Cg.sub_zero hc).symm
theorem thr_facts (xs ys : List Int) (h : ApartTo xs xs.length) (i : Nat) (hi : i ≤ xs.length) :
    (thr xs ys i).1.length = xs.length ∧ (thr xs ys i).2.length = i + 1 ∧ Rng (thr xs ys i).1 ∧ Rng (thr xs ys i).2 ∧
    (∀ t, Cg (ev (thr xs ys i).2 t) (prodAll xs t i)) ∧ (∀ j, j < i → Cg (ev (thr xs ys i).1 (xs.getD j 0)) (ys.getD j 0)) := by
  induction i with
  | zero =>
    refine ⟨by simp [thr], by simp [thr], ?_, ?_, fun t => by simp [thr, ev, prodAll, Cg], fun j hj => by omega⟩
    · intro c hc
      have := (List.mem_replicate.1 hc).2
      omega
    · intro c hc
      simp [thr] at hc
      omega
  | succ i ih =>
    obtain ⟨h1, h2, h3, h4, h5, h6⟩ := ih (by omega)
    refine ⟨by simp only [thr]; rw [inO_length, h1], by simp only [thr]; rw [inN_length, h2], ?_, ?_, fun t => ?_, fun j hj => ?_⟩
    · simp only [thr]; exact inO_rng h3 _
    · simp only [thr]; exact inN_rng _ _ _
    · simp only [thr, prodAll]
      exact (inN_ev _ _ t).trans (Cg.mul_left _ (h5 t))
    · simp only [thr]
      refine (inO_ev _ _ _ (by omega) _).trans ?_
      by_cases e : j = i
      · subst e
        have hg : ¬ Cg (ev (thr xs ys j).2 (xs.getD j 0)) 0 := fun hz => prodAll_ne xs xs.length j j h (Nat.le_refl _) (by omega) ((h5 _).symm.trans hz)
        have ho := overP_cg ((ys.getD j 0 - ev (thr xs ys j).1 (xs.getD j 0)) % 257) (ev (thr xs ys j).2 (xs.getD j 0) % 257)
        rw [inv_cg (Cg.mod (ev (thr xs ys j).2 (xs.getD j 0)))] at ho
        generalize overP ((ys.getD j 0 - ev (thr xs ys j).1 (xs.getD j 0)) % 257) (ev (thr xs ys j).2 (xs.getD j 0) % 257) = f at ho
        generalize hG : ev (thr xs ys j).2 (xs.getD j 0) = G at ho hg
        have h7 : Cg (f * G) ((ys.getD j 0 - ev (thr xs ys j).1 (xs.getD j 0)) % 257 * (G * inv G)) := (Cg.mul_right G ho).trans (Cg.of_eq (by (simp only [Int.mul_add, Int.add_mul, Int.mul_sub, Int.sub_mul, Int.mul_assoc, Int.mul_left_comm, Int.mul_comm, Int.one_mul, Int.mul_one, Int.pow_succ] <;> omega)))
        have h8 := h7.trans (Cg.mul_left _ (mul_inv hg))
        generalize f * G = z at *
        generalize ev (thr xs ys j).1 (xs.getD j 0) = u at *
        unfold Cg at *
        omega
      · have h7 := h6 j (by omega)
        have h8 : Cg (ev (thr xs ys i).2 (xs.getD j 0)) 0 := (h5 _).trans (Cg.of_eq (prodAll_root xs i j (by omega)))
        have h9 := Cg.mul_left (overP ((ys.getD i 0 - ev (thr xs ys i).1 (xs.getD i 0)) % 257) (ev (thr xs ys i).2 (xs.getD i 0) % 257)) h8
        unfold Cg at *
        omega
/-- the program's polynomial -/
def through (xs ys : List Int) : List Int := (thr xs ys xs.length).1
theorem through_length (xs ys : List Int) (h : ApartTo xs xs.length) : (through xs ys).length = xs.length := (thr_facts xs ys h _ (Nat.le_refl _)).1
theorem through_rng (xs ys : List Int) (h : ApartTo xs xs.length) : Rng (through xs ys) := (thr_facts xs ys h _ (Nat.le_refl _)).2.2.1
theorem through_interp (xs ys : List Int) (h : ApartTo xs xs.length) : Interp xs ys (through xs ys) :=
  ⟨through_length xs ys h, (thr_facts xs ys h _ (Nat.le_refl _)).2.2.2.2.2⟩
end Go.Proofs.Ytbjmadcbhkeenaa.Fld
