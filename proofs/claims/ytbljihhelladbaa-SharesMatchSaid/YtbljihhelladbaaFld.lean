/-
  Plain arithmetic modulo 257 over the integers: congruence, inverses, polynomials as lists, a polynomial with too many roots is nought, Lagrange's polynomial. No condition. Nothing of the program is imported.
-/
namespace Go.Proofs.Ytbljihhelladbaa.Fld
set_option linter.unusedSimpArgs false

theorem getD_lt {α : Type} (l : List α) (d : α) {i : Nat} (h : i < l.length) : l.getD i d = l[i] := by simp [List.getD_eq_getElem?_getD, h]
theorem getD_ge {α : Type} (l : List α) (d : α) {i : Nat} (h : l.length ≤ i) : l.getD i d = d := by simp [List.getD_eq_getElem?_getD, h]

/-- congruent modulo 257 -/
def Cg (a b : Int) : Prop := a % 257 = b % 257

theorem Cg.refl (a : Int) : Cg a a := rfl
theorem Cg.symm {a b : Int} (h : Cg a b) : Cg b a := Eq.symm h
theorem Cg.trans {a b c : Int} (h : Cg a b) (k : Cg b c) : Cg a c := Eq.trans h k
theorem Cg.of_eq {a b : Int} (h : a = b) : Cg a b := by rw [h]; rfl
theorem Cg.mod (a : Int) : Cg (a % 257) a := by unfold Cg; omega
theorem Cg.add {a b c d : Int} (h : Cg a b) (k : Cg c d) : Cg (a + c) (b + d) := by unfold Cg at *; omega
theorem Cg.sub {a b c d : Int} (h : Cg a b) (k : Cg c d) : Cg (a - c) (b - d) := by unfold Cg at *; omega
theorem Cg.neg {a b : Int} (h : Cg a b) : Cg (-a) (-b) := by unfold Cg at *; omega
theorem Cg.mul {a b c d : Int} (h : Cg a b) (k : Cg c d) : Cg (a * c) (b * d) := by
  unfold Cg at *
  rw [Int.mul_emod, h, k, ← Int.mul_emod]
theorem Cg.mul_left (a : Int) {b c : Int} (h : Cg b c) : Cg (a * b) (a * c) := Cg.mul (Cg.refl a) h
theorem Cg.mul_right (a : Int) {b c : Int} (h : Cg b c) : Cg (b * a) (c * a) := Cg.mul h (Cg.refl a)
theorem Cg.eq {a b : Int} (h : Cg a b) (ha : 0 ≤ a ∧ a ≤ 256) (hb : 0 ≤ b ∧ b ≤ 256) : a = b := by unfold Cg at h; omega
theorem Cg.eq_mod {a b : Int} (h : Cg a b) (ha : 0 ≤ a ∧ a ≤ 256) : a = b % 257 := by unfold Cg at h; omega
theorem Cg.sub_zero {a b : Int} (h : Cg (a - b) 0) : Cg a b := by unfold Cg at *; omega
theorem Cg.zero_sub {a b : Int} (h : Cg a b) : Cg (a - b) 0 := by unfold Cg at *; omega
theorem mod_range (a : Int) : 0 ≤ a % 257 ∧ a % 257 ≤ 256 := by omega

/-! ### powers and inverses -/
/-- b to the n, reduced at each step, by squaring: as the program reckons it; n counts the steps that are left -/
def powGo : Nat → Nat → Int → Int → Int
  | 0, _, power, _ => power
  | f + 1, n, power, base => if n = 0 then power else powGo f (n / 2) (if n % 2 = 1 then power * base % 257 else power) (base * base % 257)

/-- the number that, times b, is 1 (of 0: 0) -/
def inv (b : Int) : Int := powGo 9 255 1 b % 257

theorem inv_table : ∀ b : Fin 257, b.val ≠ 0 → (b.val : Int) * inv b.val % 257 = 1 := by decide +kernel

theorem inv_range (b : Int) : 0 ≤ inv b ∧ inv b ≤ 256 := mod_range _

theorem powGo_cg : ∀ (f n : Nat) (p q b c : Int), Cg p q → Cg b c → Cg (powGo f n p b) (powGo f n q c)
  | 0, _, _, _, _, _, hp, _ => hp
  | f + 1, n, p, q, b, c, hp, hb => by
    unfold powGo
    by_cases h : n = 0
    · rw [if_pos h, if_pos h]; exact hp
    · rw [if_neg h, if_neg h]
      refine powGo_cg f _ _ _ _ _ ?_ ?_
      · by_cases h2 : n % 2 = 1
        · rw [if_pos h2, if_pos h2]; exact ((Cg.mod _).trans (Cg.mul hp hb)).trans (Cg.mod _).symm
        · rw [if_neg h2, if_neg h2]; exact hp
      · exact ((Cg.mod _).trans (Cg.mul hb hb)).trans (Cg.mod _).symm

theorem inv_cg {b c : Int} (h : Cg b c) : inv b = inv c := powGo_cg 9 255 1 1 b c (Cg.refl 1) h

theorem mul_inv {b : Int} (h : ¬ Cg b 0) : Cg (b * inv b) 1 := by
  have hr := mod_range b
  have h1 := inv_table ⟨(b % 257).toNat, by omega⟩ (by unfold Cg at h; show (b % 257).toNat ≠ 0; omega)
  have h2 : (((b % 257).toNat : Nat) : Int) = b % 257 := by omega
  simp only [h2] at h1
  have h3 : inv (b % 257) = inv b := inv_cg (Cg.mod b)
  rw [h3] at h1
  exact (Cg.mul_right (inv b) (Cg.mod b).symm).trans (by unfold Cg; rw [h1]; rfl)

theorem prime {a b : Int} (h : Cg (a * b) 0) (ha : ¬ Cg a 0) : Cg b 0 := by
  have h1 : Cg (inv a * (a * b)) (inv a * 0) := Cg.mul_left _ h
  have h2 : Cg (a * inv a * b) (1 * b) := Cg.mul_right b (mul_inv ha)
  have e : inv a * (a * b) = a * inv a * b := by rw [← Int.mul_assoc, Int.mul_comm (inv a) a]
  rw [e] at h1
  have h3 := h2.symm.trans h1
  simpa using h3

/-! ### polynomials -/
def ev : List Int → Int → Int
  | [], _ => 0
  | c :: l, x => c + x * ev l x

theorem ev_cg_x (l : List Int) {x y : Int} (h : Cg x y) : Cg (ev l x) (ev l y) := by
  induction l with
  | nil => exact Cg.refl _
  | cons c l ih => exact Cg.add (Cg.refl c) (Cg.mul h ih)

/-- the values of the tails: the quotient by (X - a) -/
def tails (a : Int) : List Int → List Int
  | [] => []
  | c :: l => ev (c :: l) a :: tails a l

theorem tails_length (a : Int) (l : List Int) : (tails a l).length = l.length := by
  induction l with
  | nil => rfl
  | cons c l ih => simp [tails, ih]

theorem ev_tails (c : Int) (l : List Int) (a x : Int) : ev (c :: l) x = ev (c :: l) a + (x - a) * ev (tails a l) x := by
  induction l generalizing c with
  | nil => simp [ev, tails]
  | cons d l ih =>
    have h := ih d
    show c + x * ev (d :: l) x = c + a * ev (d :: l) a + (x - a) * (ev (d :: l) a + x * ev (tails a l) x)
    rw [h]
    (simp only [Int.mul_add, Int.add_mul, Int.mul_sub, Int.sub_mul, Int.mul_assoc, Int.mul_left_comm, Int.mul_comm, Int.one_mul, Int.mul_one, Int.pow_succ] <;> omega)

theorem coefs_of_tails (a : Int) (l : List Int) (h : ∀ c ∈ tails a l, Cg c 0) : ∀ c ∈ l, Cg c 0 := by
  induction l with
  | nil => intro c hc; cases hc
  | cons d l ih =>
    have hl : ∀ c ∈ l, Cg c 0 := ih fun c hc => h c (List.mem_cons_of_mem _ hc)
    have h0 : Cg (ev (d :: l) a) 0 := h _ (List.mem_cons_self ..)
    have he : Cg (ev l a) 0 := by
      cases l with
      | nil => exact Cg.refl 0
      | cons e l => exact h _ (List.mem_cons_of_mem _ (List.mem_cons_self ..))
    intro c hc
    cases List.mem_cons.1 hc with
    | inl e =>
      subst e
      have h1 : Cg (a * ev l a) (a * 0) := Cg.mul_left a he
      have h2 : ev (c :: l) a = c + a * ev l a := rfl
      rw [h2] at h0
      unfold Cg at *
      omega
    | inr e => exact hl c e

/-- no two of these are congruent -/
def Apart (xs : List Int) : Prop := xs.Pairwise fun a b => ¬ Cg a b

/-- A POLYNOMIAL THAT IS NOUGHT AT AS MANY PLACES AS IT HAS COEFFICIENTS IS NOUGHT -/
theorem roots : ∀ (p xs : List Int), p.length ≤ xs.length → Apart xs → (∀ x ∈ xs, Cg (ev p x) 0) → ∀ c ∈ p, Cg c 0
  | [], _, _, _, _ => fun c hc => by cases hc
  | c :: l, [], h, _, _ => by simp at h
  | c :: l, a :: xs, h, hap, hz => by
    have ha : Cg (ev (c :: l) a) 0 := hz a (List.mem_cons_self ..)
    have hq : ∀ x ∈ xs, Cg (ev (tails a l) x) 0 := by
      intro x hx
      have h1 : Cg (ev (c :: l) x) 0 := hz x (List.mem_cons_of_mem _ hx)
      rw [ev_tails c l a x] at h1
      have h2 : Cg ((x - a) * ev (tails a l) x) 0 := by unfold Cg at *; omega
      refine prime h2 fun h3 => ?_
      exact (List.pairwise_cons.1 hap).1 x hx (Cg.sub_zero h3).symm
    have hl : ∀ c ∈ l, Cg c 0 := coefs_of_tails a l (roots (tails a l) xs (by rw [tails_length]; simpa using h) (List.pairwise_cons.1 hap).2 hq)
    have he : Cg (ev l a) 0 := by
      clear hq h hz ha hap
      induction l with
      | nil => exact Cg.refl 0
      | cons d l ih =>
        have h1 : Cg d 0 := hl d (List.mem_cons_self ..)
        have h2 : Cg (ev l a) 0 := ih fun c hc => hl c (List.mem_cons_of_mem _ hc)
        have h3 : Cg (a * ev l a) (a * 0) := Cg.mul_left a h2
        show Cg (d + a * ev l a) 0
        unfold Cg at *; omega
    intro d hd
    cases List.mem_cons.1 hd with
    | inl e =>
      subst e
      have h1 : Cg (a * ev l a) (a * 0) := Cg.mul_left a he
      have h2 : ev (d :: l) a = d + a * ev l a := rfl
      rw [h2] at ha
      unfold Cg at *
      omega
    | inr e => exact hl d e

/-! ### sums, multiples, products -/
def addL (p q : List Int) : List Int := List.zipWith (· + ·) p q
def subL (p q : List Int) : List Int := List.zipWith (· - ·) p q
def smul (k : Int) (p : List Int) : List Int := p.map (k * ·)

theorem ev_addL : ∀ (p q : List Int) (x : Int), p.length = q.length → ev (addL p q) x = ev p x + ev q x
  | [], [], _, _ => rfl
  | [], _ :: _, _, h => by simp at h
  | _ :: _, [], _, h => by simp at h
  | a :: p, b :: q, x, h => by
    have ih := ev_addL p q x (by simpa using h)
    show (a + b) + x * ev (addL p q) x = (a + x * ev p x) + (b + x * ev q x)
    rw [ih]; (simp only [Int.mul_add, Int.add_mul, Int.mul_sub, Int.sub_mul, Int.mul_assoc, Int.mul_left_comm, Int.mul_comm, Int.one_mul, Int.mul_one, Int.pow_succ] <;> omega)
theorem ev_subL : ∀ (p q : List Int) (x : Int), p.length = q.length → ev (subL p q) x = ev p x - ev q x
  | [], [], _, _ => rfl
  | [], _ :: _, _, h => by simp at h
  | _ :: _, [], _, h => by simp at h
  | a :: p, b :: q, x, h => by
    have ih := ev_subL p q x (by simpa using h)
    show (a - b) + x * ev (subL p q) x = (a + x * ev p x) - (b + x * ev q x)
    rw [ih]; (simp only [Int.mul_add, Int.add_mul, Int.mul_sub, Int.sub_mul, Int.mul_assoc, Int.mul_left_comm, Int.mul_comm, Int.one_mul, Int.mul_one, Int.pow_succ] <;> omega)
theorem ev_smul (k : Int) (p : List Int) (x : Int) : ev (smul k p) x = k * ev p x := by
  induction p with
  | nil => simp [smul, ev]
  | cons c p ih =>
    show k * c + x * ev (smul k p) x = k * (c + x * ev p x)
    rw [ih]; (simp only [Int.mul_add, Int.add_mul, Int.mul_sub, Int.sub_mul, Int.mul_assoc, Int.mul_left_comm, Int.mul_comm, Int.one_mul, Int.mul_one, Int.pow_succ] <;> omega)

theorem addL_length {p q : List Int} (h : p.length = q.length) : (addL p q).length = p.length := by simp [addL, h]
theorem subL_length {p q : List Int} (h : p.length = q.length) : (subL p q).length = p.length := by simp [subL, h]
theorem smul_length (k : Int) (p : List Int) : (smul k p).length = p.length := by simp [smul]

/-- congruent, coefficient by coefficient -/
def CgL (p q : List Int) : Prop := p.length = q.length ∧ ∀ i, Cg (p.getD i 0) (q.getD i 0)

theorem subL_getD : ∀ (p q : List Int) (i : Nat), p.length = q.length → (subL p q).getD i 0 = p.getD i 0 - q.getD i 0
  | [], [], _, _ => by simp [subL]
  | [], _ :: _, _, h => by simp at h
  | _ :: _, [], _, h => by simp at h
  | a :: p, b :: q, 0, _ => by simp [subL]
  | a :: p, b :: q, i + 1, h => by
    have := subL_getD p q i (by simpa using h)
    simpa [subL] using this

theorem unique {p q xs : List Int} (hl : p.length = q.length) (hx : p.length ≤ xs.length) (hap : Apart xs) (h : ∀ x ∈ xs, Cg (ev p x) (ev q x)) : CgL p q := by
  refine ⟨hl, fun i => ?_⟩
  have hz := roots (subL p q) xs (by rw [subL_length hl]; exact hx) hap (fun x hxm => by rw [ev_subL p q x hl]; exact Cg.zero_sub (h x hxm))
  apply Cg.sub_zero
  rw [← subL_getD p q i hl]
  by_cases hi : i < (subL p q).length
  · rw [getD_lt _ _ hi]; exact hz _ (List.getElem_mem hi)
  · rw [getD_ge _ _ (by omega)]; exact Cg.refl 0

theorem ev_cgL : ∀ (p q : List Int) (x : Int), CgL p q → Cg (ev p x) (ev q x)
  | [], [], _, _ => Cg.refl _
  | [], _ :: _, _, h => by have := h.1; simp at this
  | _ :: _, [], _, h => by have := h.1; simp at this
  | a :: p, b :: q, x, h => by
    have h0 : Cg a b := by simpa using h.2 0
    have ih := ev_cgL p q x ⟨by simpa using h.1, fun i => by simpa using h.2 (i + 1)⟩
    exact Cg.add h0 (Cg.mul_left x ih)

/-- times (X - a) -/
def mulLin (a : Int) (p : List Int) : List Int := subL (0 :: p) (smul a p ++ [0])
theorem ev_append : ∀ (p q : List Int) (x : Int), ev (p ++ q) x = ev p x + x ^ p.length * ev q x
  | [], q, x => by simp [ev]
  | a :: p, q, x => by
    have ih := ev_append p q x
    show a + x * ev (p ++ q) x = (a + x * ev p x) + x ^ (p.length + 1) * ev q x
    rw [ih, Int.pow_succ]; (simp only [Int.mul_add, Int.add_mul, Int.mul_sub, Int.sub_mul, Int.mul_assoc, Int.mul_left_comm, Int.mul_comm, Int.one_mul, Int.mul_one, Int.pow_succ] <;> omega)
theorem mulLin_length (a : Int) (p : List Int) : (mulLin a p).length = p.length + 1 := by
  rw [mulLin, subL_length (by simp [smul])]; simp
theorem ev_mulLin (a : Int) (p : List Int) (x : Int) : ev (mulLin a p) x = (x - a) * ev p x := by
  rw [mulLin, ev_subL _ _ _ (by simp [smul]), ev_append, ev_smul]
  simp only [ev]
  (simp only [Int.mul_add, Int.add_mul, Int.mul_sub, Int.sub_mul, Int.mul_assoc, Int.mul_left_comm, Int.mul_comm, Int.one_mul, Int.mul_one, Int.pow_succ] <;> omega)

end Go.Proofs.Ytbljihhelladbaa.Fld
