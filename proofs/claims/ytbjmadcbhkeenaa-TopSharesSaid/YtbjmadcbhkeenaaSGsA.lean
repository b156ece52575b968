/-
  Linear equations modulo 257, plain: the elimination as the program makes it, and what it finds. Conditions: rows of numbers from 0 to 256.
-/
import Derived.Test.YtbjmadcbhkeenaaSMem
import Derived.Test.YtbjmadcbhkeenaaSNum
namespace Go.Proofs.Ytbjmadcbhkeenaa.Fld
set_option linter.unusedSimpArgs false
set_option linter.unusedVariables false
/-- the sum of the first n products -/
def dotN (r s : List Int) : Nat → Int
  | 0 => 0
  | n + 1 => dotN r s n + r.getD n 0 * s.getD n 0
theorem dotN_zero (r s : List Int) (n : Nat) (h : ∀ j, j < n → r.getD j 0 = 0) : dotN r s n = 0 := by
  induction n with
  | zero => rfl
  | succ n ih => rw [dotN, ih (fun j hj => h j (by omega)), h n (by omega), Int.zero_mul]; rfl
theorem dotN_lin (r p q s : List Int) (f g : Int) (n : Nat) (h : ∀ j, j < n → Cg (r.getD j 0) (f * p.getD j 0 + g * q.getD j 0)) : Cg (dotN r s n) (f * dotN p s n + g * dotN q s n) := by
  induction n with
  | zero => simp [dotN]; exact Cg.refl _
  | succ n ih =>
    have h1 := ih fun j hj => h j (by omega)
    have h2 := Cg.mul_right (s.getD n 0) (h n (by omega))
    refine (Cg.add h1 h2).trans (Cg.of_eq ?_)
    simp only [dotN]
    (simp only [Int.mul_add, Int.add_mul, Int.mul_assoc, Int.mul_left_comm, Int.mul_comm] <;> omega)
theorem dotN_set (r s : List Int) (p : Nat) (v : Int) (n : Nat) (hp : p < s.length) : dotN r (s.set p v) n = dotN r s n + if p < n then r.getD p 0 * (v - s.getD p 0) else 0 := by
  induction n with
  | zero => simp [dotN]
  | succ n ih =>
    rw [dotN, dotN, ih]
    by_cases h : n = p
    · subst h
      have e1 : (s.set n v).getD n 0 = v := by rw [getD_set, if_pos ⟨rfl, hp⟩]
      rw [e1, if_neg (by omega), if_pos (by omega)]
      (simp only [Int.mul_add, Int.add_mul, Int.mul_sub] <;> omega)
    · have e1 : (s.set p v).getD n 0 = s.getD n 0 := by rw [getD_set, if_neg (fun e => h e.1)]
      rw [e1]
      by_cases h2 : p < n
      · rw [if_pos h2, if_pos (by omega)]; omega
      · rw [if_neg h2, if_neg (by omega)]; omega
/-- rows of numbers: one of them, one number -/
abbrev at2 (M : List (List Int)) (i j : Nat) : Int := (M.getD i []).getD j 0
theorem getD_setR (M : List (List Int)) (i : Nat) (v : List Int) (m : Nat) : (M.set i v).getD m [] = if m = i ∧ i < M.length then v else M.getD m [] := by
  simp only [List.getD_eq_getElem?_getD, List.getElem?_set]
  by_cases h : i = m
  · subst h
    by_cases h2 : i < M.length
    · simp [h2]
    · simp [h2]
  · have : ¬ m = i := fun e => h e.symm
    simp [h, this]
/-- s solves the rows -/
def SolM (u : Nat) (M : List (List Int)) (s : List Int) : Prop := ∀ i, i < M.length → Cg (dotN (M.getD i []) s u) (at2 M i u)
/-! ### the steps, as the program makes them -/
/-- the first k numbers of a row times f -/
def scTo (f : Int) (row : List Int) : Nat → List Int
  | 0 => row
  | k + 1 => (scTo f row k).set k ((scTo f row k).getD k 0 * f % 257)
theorem scTo_length (f : Int) (row : List Int) (k : Nat) : (scTo f row k).length = row.length := by
  induction k with
  | zero => rfl
  | succ k ih => simp [scTo, ih]
theorem scTo_getD (f : Int) (row : List Int) (k : Nat) (hk : k ≤ row.length) (m : Nat) : (scTo f row k).getD m 0 = if m < k then row.getD m 0 * f % 257 else row.getD m 0 := by
  induction k with
  | zero => simp [scTo]
  | succ k ih =>
    have ih' := ih (by omega)
    unfold scTo
    rw [getD_set, scTo_length]
    by_cases h : m = k
    · subst h
      rw [if_pos ⟨rfl, by omega⟩, ih', if_neg (by omega), if_pos (by omega)]
    · rw [if_neg (by omega), ih']
      by_cases h2 : m < k
      · rw [if_pos h2, if_pos (by omega)]
      · rw [if_neg h2, if_neg (by omega)]
theorem scTo_rng {f : Int} {row : List Int} (ho : Rng row) (k : Nat) : Rng (scTo f row k) := by
  induction k with
  | zero => exact ho
  | succ k ih =>
    refine Rng.of_getD fun i _ => ?_
    unfold scTo
    rw [getD_set]
    split
    · exact mod_range _
    · exact ih.getD i
/-- the row of the next pivot in column c, from r on; as many as there are rows: there is none -/
def findK (M : List (List Int)) (c r : Nat) : Nat := r + (M.drop r).findIdx fun row => row.getD c 0 != 0
theorem findK_le (M : List (List Int)) (c r : Nat) (hr : r ≤ M.length) : r ≤ findK M c r ∧ findK M c r ≤ M.length := by
  unfold findK
  have := List.findIdx_le_length (xs := M.drop r) (p := fun row => row.getD c 0 != 0)
  rw [List.length_drop] at this
  omega
theorem findK_eq (M : List (List Int)) (c r k : Nat) (h1 : r ≤ k) (h2 : k ≤ M.length) (hz : ∀ i, r ≤ i → i < k → at2 M i c = 0) (hk : k < M.length → at2 M k c ≠ 0) : findK M c r = k := by
  have key : (M.drop r).findIdx (fun row => row.getD c 0 != 0) = k - r := by
    by_cases hkm : k < M.length
    · rw [List.findIdx_eq (by rw [List.length_drop]; omega)]
      refine ⟨?_, fun j hj => ?_⟩
      · have := hk hkm
        rw [List.getElem_drop]
        have e : r + (k - r) = k := by omega
        simp only [e]
        rw [at2, getD_lt M [] hkm] at this
        simpa using this
      · have := hz (r + j) (by omega) (by omega)
        rw [List.getElem_drop]
        rw [at2, getD_lt M [] (show r + j < M.length by omega)] at this
        simpa using this
    · have e : k = M.length := by omega
      have h3 : (M.drop r).findIdx (fun row => row.getD c 0 != 0) = (M.drop r).length := by
        rw [List.findIdx_eq_length]
        intro x hx
        obtain ⟨j, hj, rfl⟩ := List.getElem_of_mem hx
        rw [List.length_drop] at hj
        have := hz (r + j) (by omega) (by omega)
        rw [List.getElem_drop]
        rw [at2, getD_lt M [] (show r + j < M.length by omega)] at this
        simpa using this
      rw [h3, List.length_drop]; omega
  unfold findK
  rw [key]; omega
theorem findK_zero (M : List (List Int)) (c r i : Nat) (hr : r ≤ i) (hi : i < findK M c r) (hm : i < M.length) : at2 M i c = 0 := by
  unfold findK at hi
  have h := List.not_of_lt_findIdx (p := fun row => row.getD c 0 != 0) (xs := M.drop r) (i := i - r) (by omega)
  have e : r + (i - r) = i := by omega
  rw [List.getElem_drop] at h
  simp only [e] at h
  rw [at2, getD_lt M [] hm]
  simpa using h
theorem findK_ne (M : List (List Int)) (c r : Nat) (h : findK M c r < M.length) : at2 M (findK M c r) c ≠ 0 := by
  have h0 : (M.drop r).findIdx (fun row => row.getD c 0 != 0) < (M.drop r).length := by unfold findK at h; rw [List.length_drop]; omega
  have h1 := List.findIdx_getElem (w := h0)
  rw [List.getElem_drop] at h1
  have e : at2 M (findK M c r) c = (M[findK M c r]).getD c 0 := by rw [at2, getD_lt M [] h]
  rw [e]
  unfold findK
  simpa using h1
def swapM (M : List (List Int)) (r k : Nat) : List (List Int) := (M.set r (M.getD k [])).set k (M.getD r [])
def scaleM (M : List (List Int)) (r c : Nat) : List (List Int) := M.set r (scTo (overP 1 (at2 M r c)) (M.getD r []) (M.getD r []).length)
def elim1 (M : List (List Int)) (r c i : Nat) : List (List Int) := if i = r ∨ at2 M i c = 0 then M else M.set i (inO (257 - at2 M i c) (M.getD r []) (M.getD i []) (M.getD i []).length)
def elimTo (M : List (List Int)) (r c : Nat) : Nat → List (List Int)
  | 0 => M
  | i + 1 => elim1 (elimTo M r c i) r c i
def stepM (M : List (List Int)) (r c k : Nat) : List (List Int) := elimTo (scaleM (swapM M r k) r c) r c M.length
def gstep (s : List (List Int) × List Nat) (c : Nat) : List (List Int) × List Nat :=
  if findK s.1 c s.2.length < s.1.length then (stepM s.1 s.2.length c (findK s.1 c s.2.length), s.2 ++ [c]) else s
def gauss (M : List (List Int)) : Nat → List (List Int) × List Nat
  | 0 => (M, [])
  | c + 1 => if (gauss M c).2.length < M.length then gstep (gauss M c) c else gauss M c
theorem gauss_stop (M : List (List Int)) (c : Nat) (h : M.length ≤ (gauss M c).2.length) : ∀ u, c ≤ u → gauss M u = gauss M c
  | 0, hu => by rw [show c = 0 by omega]
  | u + 1, hu => by
    by_cases e : c = u + 1
    · rw [e]
    · have ih := gauss_stop M c h u (by omega)
      rw [gauss, ih, if_neg (by omega)]
theorem swapM_length (M : List (List Int)) (r k : Nat) : (swapM M r k).length = M.length := by simp [swapM]
theorem scaleM_length (M : List (List Int)) (r c : Nat) : (scaleM M r c).length = M.length := by simp [scaleM]
theorem elim1_length (M : List (List Int)) (r c i : Nat) : (elim1 M r c i).length = M.length := by unfold elim1; split <;> simp
theorem elimTo_length (M : List (List Int)) (r c i : Nat) : (elimTo M r c i).length = M.length := by
  induction i with
  | zero => rfl
  | succ i ih => rw [elimTo, elim1_length, ih]
theorem stepM_length (M : List (List Int)) (r c k : Nat) : (stepM M r c k).length = M.length := by unfold stepM; rw [elimTo_length, scaleM_length, swapM_length]
theorem swapM_getD (M : List (List Int)) (r k : Nat) (hr : r < M.length) (hk : k < M.length) (i : Nat) : (swapM M r k).getD i [] = if i = k then M.getD r [] else if i = r then M.getD k [] else M.getD i [] := by
  unfold swapM
  rw [getD_setR, getD_setR, List.length_set]
  by_cases h : i = k
  · rw [if_pos ⟨h, hk⟩, if_pos h]
  · rw [if_neg (fun e => h e.1), if_neg h]
    by_cases h2 : i = r
    · rw [if_pos ⟨h2, hr⟩, if_pos h2]
    · rw [if_neg (fun e => h2 e.1), if_neg h2]
/-! ### what stays through the steps -/
/-- rows of u + 1 numbers from 0 to 256 -/
def Wid (u : Nat) (M : List (List Int)) : Prop := ∀ i, i < M.length → (M.getD i []).length = u + 1 ∧ Rng (M.getD i [])
theorem Wid.rng {u : Nat} {M : List (List Int)} (h : Wid u M) (i j : Nat) : 0 ≤ at2 M i j ∧ at2 M i j ≤ 256 := by
  by_cases hi : i < M.length
  · exact (h i hi).2.getD j
  · unfold at2; rw [getD_ge M [] (by omega)]; simp
theorem swap_wid {u : Nat} {M : List (List Int)} (h : Wid u M) {r k : Nat} (hr : r < M.length) (hk : k < M.length) : Wid u (swapM M r k) := by
  intro i hi
  rw [swapM_length] at hi
  rw [swapM_getD M r k hr hk]
  split
  · exact h r hr
  · split
    · exact h k hk
    · exact h i hi
theorem set_wid {u : Nat} {M : List (List Int)} (h : Wid u M) {r : Nat} {row : List Int} (h1 : row.length = u + 1) (h2 : Rng row) : Wid u (M.set r row) := by
  intro i hi
  rw [List.length_set] at hi
  rw [getD_setR]
  split
  · exact ⟨h1, h2⟩
  · exact h i hi
theorem scale_wid {u : Nat} {M : List (List Int)} (h : Wid u M) {r : Nat} (hr : r < M.length) (c : Nat) : Wid u (scaleM M r c) :=
  set_wid h (by rw [scTo_length]; exact (h r hr).1) (scTo_rng (h r hr).2 _)
theorem elim1_wid {u : Nat} {M : List (List Int)} (h : Wid u M) (r c : Nat) {i : Nat} (hi : i < M.length) : Wid u (elim1 M r c i) := by
  unfold elim1
  split
  · exact h
  · exact set_wid h (by rw [inO_length]; exact (h i hi).1) (inO_rng (h i hi).2 _)
theorem elimTo_wid {u : Nat} {M : List (List Int)} (h : Wid u M) (r c i : Nat) (hi : i ≤ M.length) : Wid u (elimTo M r c i) := by
  induction i with
  | zero => exact h
  | succ i ih => exact elim1_wid (ih (by omega)) r c (by rw [elimTo_length]; omega)
theorem step_wid {u : Nat} {M : List (List Int)} (h : Wid u M) {r k : Nat} (hr : r < M.length) (hk : k < M.length) (c : Nat) : Wid u (stepM M r c k) :=
  elimTo_wid (scale_wid (swap_wid h hr hk) (by rw [swapM_length]; exact hr) c) r c _ (by rw [scaleM_length, swapM_length]; exact Nat.le_refl _)
theorem swap_sol {u : Nat} {M : List (List Int)} {r k : Nat} (hr : r < M.length) (hk : k < M.length) (s : List Int) : SolM u (swapM M r k) s ↔ SolM u M s := by
  unfold SolM
  rw [swapM_length]
  constructor
  · intro h i hi
    by_cases h1 : i = r
    · have := h k hk
      rw [at2, swapM_getD M r k hr hk, if_pos rfl] at this
      rw [h1]; exact this
    · by_cases h2 : i = k
      · have := h r hr
        rw [at2, swapM_getD M r k hr hk] at this
        by_cases e : r = k
        · exact absurd (h2.trans e.symm) h1
        · rw [if_neg e, if_pos rfl] at this
          rw [h2]; exact this
      · have := h i hi
        rw [at2, swapM_getD M r k hr hk, if_neg h2, if_neg h1] at this
        exact this
  · intro h i hi
    rw [at2, swapM_getD M r k hr hk]
    split
    · exact h r hr
    · split
      · exact h k hk
      · exact h i hi
theorem inv_ne {x : Int} (hx : ¬ Cg x 0) : ¬ Cg (inv x) 0 := by
  intro h
  have h1 := mul_inv hx
  have h2 := Cg.mul_left x h
  rw [Int.mul_zero] at h2
  have := h2.symm.trans h1
  unfold Cg at this; omega
theorem over1 (x : Int) : Cg (overP 1 x) (inv x) := by
  have := overP_cg 1 x
  rwa [Int.one_mul] at this
theorem scale_sol {u : Nat} {M : List (List Int)} (hw : Wid u M) {r c : Nat} (hr : r < M.length) (hne : at2 M r c ≠ 0) (s : List Int) : SolM u (scaleM M r c) s ↔ SolM u M s := by
  have hx : ¬ Cg (at2 M r c) 0 := by
    have := hw.rng r c
    unfold Cg; omega
  obtain ⟨f, hf⟩ : ∃ f, f = overP 1 (at2 M r c) := ⟨_, rfl⟩
  have hfne : ¬ Cg f 0 := fun h => inv_ne hx ((over1 _).symm.trans (hf ▸ h))
  have hl := (hw r hr).1
  have hrow : ∀ j, j < u + 1 → Cg ((scTo f (M.getD r []) (M.getD r []).length).getD j 0) (f * (M.getD r []).getD j 0) := by
    intro j hj
    rw [scTo_getD _ _ _ (Nat.le_refl _), if_pos (by omega), Int.mul_comm]
    exact Cg.mod _
  have hdot : Cg (dotN (scTo f (M.getD r []) (M.getD r []).length) s u) (f * dotN (M.getD r []) s u) := by
    have := dotN_lin (scTo f (M.getD r []) (M.getD r []).length) (M.getD r []) (M.getD r []) s f 0 u (fun j hj => by rw [Int.zero_mul, Int.add_zero]; exact hrow j (by omega))
    rwa [Int.zero_mul, Int.add_zero] at this
  have key : Cg (dotN (scTo f (M.getD r []) (M.getD r []).length) s u) ((scTo f (M.getD r []) (M.getD r []).length).getD u 0) ↔ Cg (dotN (M.getD r []) s u) ((M.getD r []).getD u 0) := by
    constructor
    · intro h
      have h1 := (hdot.symm.trans h).trans (hrow u (by omega))
      have h2 : Cg (f * (dotN (M.getD r []) s u - (M.getD r []).getD u 0)) 0 := by rw [Int.mul_sub]; exact Cg.zero_sub h1
      exact Cg.sub_zero (prime h2 hfne)
    · intro h
      exact (hdot.trans (Cg.mul_left f h)).trans (hrow u (by omega)).symm
  unfold SolM scaleM
  rw [List.length_set, ← hf]
  constructor
  · intro h i hi
    have := h i hi
    rw [at2, getD_setR] at this
    by_cases e : i = r
    · rw [if_pos ⟨e, hr⟩] at this
      rw [e]; exact key.1 this
    · rw [if_neg (fun g => e g.1)] at this
      exact this
  · intro h i hi
    rw [at2, getD_setR]
    by_cases e : i = r
    · rw [if_pos ⟨e, hr⟩]; exact key.2 (h r hr)
    · rw [if_neg (fun g => e g.1)]; exact h i hi
theorem elim1_getD (M : List (List Int)) (r c i m : Nat) (hi : i < M.length) : (elim1 M r c i).getD m [] = if m = i ∧ ¬ (i = r ∨ at2 M i c = 0) then inO (257 - at2 M i c) (M.getD r []) (M.getD i []) (M.getD i []).length else M.getD m [] := by
  unfold elim1
  by_cases h : i = r ∨ at2 M i c = 0
  · rw [if_pos h, if_neg (fun e => e.2 h)]
  · rw [if_neg h, getD_setR]
    by_cases e : m = i
    · rw [if_pos ⟨e, hi⟩, if_pos ⟨e, h⟩]
    · rw [if_neg (fun g => e g.1), if_neg (fun g => e g.1)]
theorem elim1_sol {u : Nat} {M : List (List Int)} (hw : Wid u M) {r c i : Nat} (hr : r < M.length) (hi : i < M.length) (s : List Int) : SolM u (elim1 M r c i) s ↔ SolM u M s := by
  by_cases h0 : i = r ∨ at2 M i c = 0
  · unfold elim1; rw [if_pos h0]
  · have hir : i ≠ r := fun e => h0 (Or.inl e)
    obtain ⟨g, hg⟩ : ∃ g, g = 257 - at2 M i c := ⟨_, rfl⟩
    have hrow : ∀ j, j < u + 1 → Cg ((inO g (M.getD r []) (M.getD i []) (M.getD i []).length).getD j 0) (1 * (M.getD i []).getD j 0 + g * (M.getD r []).getD j 0) := by
      intro j hj
      rw [inO_getD _ _ _ _ (Nat.le_refl _), if_pos (by rw [(hw i hi).1]; exact hj), Int.one_mul]
      exact Cg.mod _
    have hdot := dotN_lin (inO g (M.getD r []) (M.getD i []) (M.getD i []).length) (M.getD i []) (M.getD r []) s 1 g u (fun j hj => hrow j (by omega))
    have hu := hrow u (by omega)
    rw [Int.one_mul] at hdot hu
    unfold SolM
    rw [elim1_length]
    constructor
    · intro h m hm
      have hrr := h r hr
      rw [at2, elim1_getD M r c i r hi, if_neg (fun e => hir e.1.symm)] at hrr
      by_cases e : m = i
      · have := h i hi
        rw [at2, elim1_getD M r c i i hi, if_pos ⟨rfl, h0⟩, ← hg] at this
        rw [e]
        have h3 := (hdot.symm.trans this).trans hu
        have h4 := Cg.mul_left g hrr
        unfold at2
        unfold Cg at *; omega
      · have := h m hm
        rw [at2, elim1_getD M r c i m hi, if_neg (fun g => e g.1)] at this
        exact this
    · intro h m hm
      rw [at2, elim1_getD M r c i m hi]
      by_cases e : m = i
      · rw [if_pos ⟨e, h0⟩, ← hg]
        exact (hdot.trans (Cg.add (h i hi) (Cg.mul_left g (h r hr)))).trans hu.symm
      · rw [if_neg (fun g => e g.1)]; exact h m hm
theorem elimTo_sol {u : Nat} {M : List (List Int)} (hw : Wid u M) {r c : Nat} (hr : r < M.length) (s : List Int) (i : Nat) (hi : i ≤ M.length) : SolM u (elimTo M r c i) s ↔ SolM u M s := by
  induction i with
  | zero => exact Iff.rfl
  | succ i ih => exact (elim1_sol (elimTo_wid hw r c i (by omega)) (by rw [elimTo_length]; exact hr) (by rw [elimTo_length]; omega) s).trans (ih (by omega))
theorem step_sol {u : Nat} {M : List (List Int)} (hw : Wid u M) {r c k : Nat} (hr : r < M.length) (hk : k < M.length) (hne : at2 M k c ≠ 0) (s : List Int) : SolM u (stepM M r c k) s ↔ SolM u M s := by
  have hwS := swap_wid hw hr hk
  have hlS : r < (swapM M r k).length := by rw [swapM_length]; exact hr
  have hneS : at2 (swapM M r k) r c ≠ 0 := by
    rw [at2, swapM_getD M r k hr hk]
    by_cases e : r = k
    · rw [if_pos e]; rw [← e] at hne; exact hne
    · rw [if_neg e, if_pos rfl]; exact hne
  unfold stepM
  rw [elimTo_sol (scale_wid hwS hlS c) (by rw [scaleM_length]; exact hlS) s _ (by rw [scaleM_length, swapM_length]; exact Nat.le_refl _), scale_sol hwS hlS hneS, swap_sol hr hk]
/-- one column behind the elimination of some rows: a row's number there -/
theorem elimTo_row (M : List (List Int)) (r c : Nat) (hr : r < M.length) : ∀ (n : Nat), n ≤ M.length → ∀ i, (elimTo M r c n).getD i [] = if i < n ∧ ¬ (i = r ∨ at2 M i c = 0) then inO (257 - at2 M i c) (M.getD r []) (M.getD i []) (M.getD i []).length else M.getD i []
  | 0, _, i => by rw [if_neg (by omega)]; rfl
  | n + 1, hn, i => by
    have ih := elimTo_row M r c hr n (by omega)
    have e1 : (elimTo M r c n).getD n [] = M.getD n [] := by rw [ih n, if_neg (by omega)]
    have e2 : (elimTo M r c n).getD r [] = M.getD r [] := by rw [ih r, if_neg (fun h => h.2 (Or.inl rfl))]
    rw [elimTo, elim1_getD _ _ _ _ _ (by rw [elimTo_length]; omega)]
    simp only [at2, e1, e2]
    by_cases h : i = n
    · subst h
      by_cases h2 : i = r ∨ at2 M i c = 0
      · rw [if_neg (fun g => g.2 h2), if_neg (fun g => g.2 h2), e1]
      · rw [if_pos ⟨rfl, h2⟩, if_pos ⟨by omega, h2⟩]
    · rw [if_neg (fun g => h g.1), ih i]
      by_cases h2 : i < n ∧ ¬ (i = r ∨ at2 M i c = 0)
      · rw [if_pos h2, if_pos ⟨by omega, h2.2⟩]
      · rw [if_neg h2, if_neg (fun g => h2 ⟨by omega, g.2⟩)]
/-- a column in which the pivot's row has 0 stays as it was, but for the swap -/
theorem step_keep {u : Nat} {M : List (List Int)} (hw : Wid u M) {r c k : Nat} (hr : r < M.length) (hk : k < M.length) (p : Nat) (hp : p < u + 1) (h0 : at2 M k p = 0) (i : Nat) (hi : i < M.length) : at2 (stepM M r c k) i p = at2 (swapM M r k) i p := by
  have hwS := swap_wid hw hr hk
  have hlS : r < (swapM M r k).length := by rw [swapM_length]; exact hr
  have hS : at2 (swapM M r k) r p = 0 := by
    rw [at2, swapM_getD M r k hr hk]
    by_cases e : r = k
    · rw [if_pos e]; rw [← e] at h0; exact h0
    · rw [if_neg e, if_pos rfl]; exact h0
  generalize hSS : swapM M r k = S at *
  have hlen : S.length = M.length := by rw [← hSS, swapM_length]
  have hC : ∀ m, at2 (scaleM S r c) m p = at2 S m p := by
    intro m
    unfold scaleM
    rw [at2, getD_setR]
    by_cases e : m = r
    · rw [if_pos ⟨e, hlS⟩, scTo_getD _ _ _ (Nat.le_refl _), if_pos (by rw [(hwS r hlS).1]; exact hp)]
      have hS' : (S.getD r []).getD p 0 = 0 := hS
      rw [hS', e, Int.zero_mul]
      exact hS'.symm
    · rw [if_neg (fun g => e g.1)]
  have hwC := scale_wid hwS hlS c
  unfold stepM
  rw [hSS, at2, elimTo_row _ _ _ (by rw [scaleM_length]; exact hlS) _ (by rw [scaleM_length]; omega)]
  split
  · rw [inO_getD _ _ _ _ (Nat.le_refl _), if_pos (by rw [(hwC i (by rw [scaleM_length]; omega)).1]; exact hp)]
    have h1 := hC r
    have h2 := hC i
    unfold at2 at h1 h2 hS
    rw [h1, h2, hS, Int.mul_zero, Int.add_zero]
    exact Int.emod_eq_of_lt (hwS.rng i p).1 (by have := (hwS.rng i p).2; unfold at2 at this; omega)
  · exact hC i
theorem step_pivot {u : Nat} {M : List (List Int)} (hw : Wid u M) {r c k : Nat} (hr : r < M.length) (hk : k < M.length) (hc : c < u + 1) (hne : at2 M k c ≠ 0) (i : Nat) (hi : i < M.length) : at2 (stepM M r c k) i c = if i = r then 1 else 0 := by
  have hwS := swap_wid hw hr hk
  have hlS : r < (swapM M r k).length := by rw [swapM_length]; exact hr
  have hneS : at2 (swapM M r k) r c ≠ 0 := by
    rw [at2, swapM_getD M r k hr hk]
    by_cases e : r = k
    · rw [if_pos e]; rw [← e] at hne; exact hne
    · rw [if_neg e, if_pos rfl]; exact hne
  generalize hSS : swapM M r k = S at *
  have hlen : S.length = M.length := by rw [← hSS, swapM_length]
  have hwC := scale_wid hwS hlS c
  have hx : ¬ Cg (at2 S r c) 0 := by
    have := hwS.rng r c
    unfold Cg; omega
  have h1 : at2 (scaleM S r c) r c = 1 := by
    unfold scaleM
    rw [at2, getD_setR, if_pos ⟨rfl, hlS⟩, scTo_getD _ _ _ (Nat.le_refl _), if_pos (by rw [(hwS r hlS).1]; exact hc)]
    have h2 := (Cg.mul_left (at2 S r c) (over1 (at2 S r c))).trans (mul_inv hx)
    unfold Cg at h2
    exact h2
  unfold stepM
  rw [hSS, at2, elimTo_row _ _ _ (by rw [scaleM_length]; exact hlS) _ (by rw [scaleM_length]; omega)]
  by_cases e : i = r
  · rw [if_neg (fun g => g.2 (Or.inl e)), if_pos e, e]; exact h1
  · rw [if_neg e]
    by_cases h0 : at2 (scaleM S r c) i c = 0
    · rw [if_neg (fun g => g.2 (Or.inr h0))]; exact h0
    · rw [if_pos ⟨by omega, fun g => g.elim e h0⟩, inO_getD _ _ _ _ (Nat.le_refl _), if_pos (by rw [(hwC i (by rw [scaleM_length]; omega)).1]; exact hc)]
      unfold at2 at h1 ⊢
      rw [h1]; omega
/-! ### the elimination -/
structure GInv (u : Nat) (M0 : List (List Int)) (s : List (List Int) × List Nat) (c : Nat) : Prop where
  len : s.1.length = M0.length
  wid : Wid u s.1
  sol : ∀ x, SolM u s.1 x ↔ SolM u M0 x
  pl : s.2.length ≤ M0.length
  pc : ∀ p ∈ s.2, p < c
  pv : ∀ i j, i < M0.length → j < s.2.length → at2 s.1 i (s.2.getD j 0) = if i = j then 1 else 0
  z : ∀ i c', s.2.length ≤ i → i < M0.length → c' < c → at2 s.1 i c' = 0
theorem getDN_lt (l : List Nat) {i : Nat} (h : i < l.length) : l.getD i 0 ∈ l := by rw [getD_lt _ _ h]; exact List.getElem_mem h
theorem GInv.step {u : Nat} {M0 : List (List Int)} {s : List (List Int) × List Nat} {c : Nat} (h : GInv u M0 s c) (hc : c < u) (hl : s.2.length < M0.length) : GInv u M0 (gstep s c) (c + 1) := by
  obtain ⟨M, ps⟩ := s
  have hlen : M.length = M0.length := h.len
  have hw : Wid u M := h.wid
  have hpc : ∀ p ∈ ps, p < c := h.pc
  have hpv : ∀ i j, i < M0.length → j < ps.length → at2 M i (ps.getD j 0) = if i = j then 1 else 0 := h.pv
  have hz : ∀ i c', ps.length ≤ i → i < M0.length → c' < c → at2 M i c' = 0 := h.z
  have hl' : ps.length < M.length := by rw [hlen]; exact hl
  have hk := findK_le M c ps.length (by omega)
  unfold gstep
  dsimp only
  by_cases hf : findK M c ps.length < M.length
  · rw [if_pos hf]
    have hne := findK_ne M c ps.length hf
    generalize findK M c ps.length = k at *
    have hkr : ps.length ≤ k := hk.1
    have hkz : ∀ c', c' < c → at2 M k c' = 0 := fun c' hc' => hz k c' hkr (by omega) hc'
    have hsw : ∀ i c', c' < c → ps.length ≤ i → i < M0.length → at2 (swapM M ps.length k) i c' = 0 := by
      intro i c' hc' hi hi2
      rw [at2, swapM_getD M _ _ hl' hf]
      split
      · exact hz _ c' (Nat.le_refl _) (by omega) hc'
      · split
        · exact hkz c' hc'
        · exact hz i c' hi hi2 hc'
    refine ⟨by rw [stepM_length]; exact hlen, step_wid hw hl' hf c, fun x => (step_sol hw hl' hf hne x).trans (h.sol x), by rw [List.length_append]; exact hl, ?_, ?_, ?_⟩
    · intro p hp
      rcases List.mem_append.1 hp with hp | hp
      · have := hpc p hp; omega
      · rw [List.mem_singleton] at hp; omega
    · intro i j hi hj
      rw [List.length_append] at hj
      simp only [List.length_singleton] at hj
      dsimp only
      by_cases hjr : j < ps.length
      · have e : (ps ++ [c]).getD j 0 = ps.getD j 0 := by
          simp only [List.getD_eq_getElem?_getD]; rw [List.getElem?_append_left hjr]
        have hp := hpc _ (getDN_lt ps hjr)
        rw [e, step_keep hw hl' hf _ (by omega) (hkz _ hp) i (by omega), at2, swapM_getD M _ _ hl' hf]
        by_cases h1 : i = k
        · rw [if_pos h1]
          have := hpv ps.length j (by omega) hjr
          rw [if_neg (by omega)] at this
          rw [if_neg (by omega)]; exact this
        · rw [if_neg h1]
          by_cases h2 : i = ps.length
          · rw [if_pos h2, if_neg (by omega)]
            have := hpv k j (by omega) hjr
            rw [if_neg (by omega)] at this
            exact this
          · rw [if_neg h2]; exact hpv i j hi hjr
      · obtain rfl : j = ps.length := by omega
        have e : (ps ++ [c]).getD ps.length 0 = c := by simp [List.getD_eq_getElem?_getD]
        rw [e, step_pivot hw hl' hf (by omega) hne i (by omega)]
    · intro i c' hi hi2 hc'
      rw [List.length_append] at hi
      simp only [List.length_singleton] at hi
      dsimp only
      by_cases e : c' = c
      · rw [e, step_pivot hw hl' hf (by omega) hne i (by omega), if_neg (by omega)]
      · rw [step_keep hw hl' hf _ (by omega) (hkz c' (by omega)) i (by omega)]
        exact hsw i c' (by omega) (by omega) hi2
  · rw [if_neg hf]
    refine ⟨hlen, hw, h.sol, h.pl, fun p hp => by have := hpc p hp; omega, hpv, fun i c' hi hi2 hc' => ?_⟩
    by_cases e : c' = c
    · rw [e]; exact findK_zero M c ps.length i hi (by omega) (by omega)
    · exact hz i c' hi hi2 (by omega)
theorem gauss_inv {u : Nat} {M0 : List (List Int)} (hw : Wid u M0) : ∀ c, c ≤ u → GInv u M0 (gauss M0 c) c
  | 0, _ => ⟨rfl, hw, fun _ => Iff.rfl, Nat.zero_le _, fun p hp => by simp [gauss] at hp, fun i j hi hj => by simp [gauss] at hj, fun i c' _ _ hc' => absurd hc' (Nat.not_lt_zero _)⟩
  | c + 1, hc => by
    have ih := gauss_inv hw c (by omega)
    unfold gauss
    by_cases h : (gauss M0 c).2.length < M0.length
    · rw [if_pos h]; exact ih.step (by omega) h
    · rw [if_neg h]
      exact ⟨ih.len, ih.wid, ih.sol, ih.pl, fun p hp => by have := ih.pc p hp; omega, ih.pv, fun i c' hi hi2 _ => absurd hi2 (by omega)⟩
/-- the numbers that are found: those of the pivots, else 0 -/
def outTo (M : List (List Int)) (ps : List Nat) (u : Nat) : Nat → List Int
  | 0 => List.replicate u 0
  | k + 1 => (outTo M ps u k).set (ps.getD k 0) (at2 M k u)
theorem outTo_length (M : List (List Int)) (ps : List Nat) (u k : Nat) : (outTo M ps u k).length = u := by
  induction k with
  | zero => simp [outTo]
  | succ k ih => simp [outTo, ih]
theorem outTo_other (M : List (List Int)) (ps : List Nat) (u k p : Nat) (h : ∀ j, j < k → ps.getD j 0 ≠ p) : (outTo M ps u k).getD p 0 = 0 := by
  induction k with
  | zero =>
    simp only [outTo, List.getD_eq_getElem?_getD, List.getElem?_replicate]
    split <;> rfl
  | succ k ih =>
    rw [outTo, getD_set, if_neg (fun e => h k (by omega) e.1.symm)]
    exact ih fun j hj => h j (by omega)
theorem outTo_rng {u0 : Nat} {M : List (List Int)} (hw : Wid u0 M) (ps : List Nat) (u k : Nat) : Rng (outTo M ps u k) := by
  induction k with
  | zero => intro c hc; have := (List.mem_replicate.1 hc).2; omega
  | succ k ih =>
    refine Rng.of_getD fun i _ => ?_
    unfold outTo
    rw [getD_set]
    split
    · exact hw.rng k u
    · exact ih.getD i
theorem GInv.dot {u : Nat} {M0 : List (List Int)} {s : List (List Int) × List Nat} {c : Nat} (h : GInv u M0 s c) (hc : c ≤ u) (i : Nat) (hi : i < M0.length) (k : Nat) (hk : k ≤ s.2.length) : dotN (s.1.getD i []) (outTo s.1 s.2 u k) u = if i < k then at2 s.1 i u else 0 := by
  induction k with
  | zero =>
    rw [if_neg (by omega)]
    have e : ∀ n, dotN (s.1.getD i []) (List.replicate u 0) n = 0 := by
      intro n
      induction n with
      | zero => rfl
      | succ n ih =>
        have e0 : (List.replicate u (0 : Int)).getD n 0 = 0 := by
          simp only [List.getD_eq_getElem?_getD, List.getElem?_replicate]
          split <;> rfl
        rw [dotN, ih, e0, Int.mul_zero]; rfl
    exact e u
  | succ k ih =>
    have ih' := ih (by omega)
    have hp := h.pc _ (getDN_lt s.2 (show k < s.2.length by omega))
    have hne : ∀ j, j < k → s.2.getD j 0 ≠ s.2.getD k 0 := by
      intro j hj e
      have h1 := h.pv k j (by have := h.pl; omega) (by omega)
      have h2 := h.pv k k (by have := h.pl; omega) (by omega)
      rw [e, h2, if_pos rfl, if_neg (by omega)] at h1
      omega
    rw [outTo, dotN_set _ _ _ _ _ (by rw [outTo_length]; omega), outTo_other _ _ _ _ _ hne, Int.sub_zero, if_pos (show s.2.getD k 0 < u by omega), ih']
    have hv := h.pv i k hi (by omega)
    unfold at2 at hv
    rw [hv]
    by_cases e : i = k
    · subst e
      rw [if_neg (by omega), if_pos rfl, if_pos (by omega)]
      show 0 + 1 * at2 s.1 i u = at2 s.1 i u
      omega
    · rw [if_neg e, Int.zero_mul, Int.add_zero]
      by_cases h2 : i < k
      · rw [if_pos h2, if_pos (by omega)]
      · rw [if_neg h2, if_neg (by omega)]
/-- whether rows are left that ask for what cannot be -/
def okM (s : List (List Int) × List Nat) (u : Nat) : Bool := (s.1.drop s.2.length).all fun row => row.getD u 0 == 0
def solveL (M : List (List Int)) (u : Nat) : Option (List Int) := if okM (gauss M u) u = true then some (outTo (gauss M u).1 (gauss M u).2 u (gauss M u).2.length) else none
theorem okM_iff (s : List (List Int) × List Nat) (u : Nat) : okM s u = true ↔ ∀ i, s.2.length ≤ i → i < s.1.length → at2 s.1 i u = 0 := by
  unfold okM
  rw [List.all_eq_true]
  constructor
  · intro h i hi hi2
    have := h (s.1[i]) (by
      rw [List.mem_iff_getElem]
      refine ⟨i - s.2.length, by rw [List.length_drop]; omega, ?_⟩
      rw [List.getElem_drop]
      congr 1; omega)
    rw [at2, getD_lt s.1 [] hi2]
    simpa using this
  · intro h x hx
    obtain ⟨j, hj, rfl⟩ := List.getElem_of_mem hx
    rw [List.length_drop] at hj
    rw [List.getElem_drop]
    have := h (s.2.length + j) (by omega) (by omega)
    rw [at2, getD_lt s.1 [] (by omega)] at this
    simpa using this
/-- WHAT THE ELIMINATION FINDS SOLVES THE ROWS; IF IT FINDS NOTHING THERE IS NOTHING -/
theorem solveL_some {u : Nat} {M : List (List Int)} (hw : Wid u M) {s : List Int} (h : solveL M u = some s) : SolM u M s ∧ s.length = u ∧ Rng s := by
  have hi := gauss_inv hw u (Nat.le_refl _)
  unfold solveL at h
  by_cases ho : okM (gauss M u) u = true
  · rw [if_pos ho] at h
    cases h
    refine ⟨(hi.sol _).1 fun i him => ?_, outTo_length .., outTo_rng hi.wid _ _ _⟩
    rw [hi.len] at him
    rw [hi.dot (Nat.le_refl _) i him _ (Nat.le_refl _)]
    by_cases h2 : i < (gauss M u).2.length
    · rw [if_pos h2]; exact Cg.refl _
    · rw [if_neg h2, (okM_iff _ _).1 ho i (by omega) (by rw [hi.len]; exact him)]; exact Cg.refl _
  · rw [if_neg ho] at h; cases h
theorem solveL_exists {u : Nat} {M : List (List Int)} (hw : Wid u M) {x : List Int} (hx : SolM u M x) : ∃ s, solveL M u = some s := by
  have hi := gauss_inv hw u (Nat.le_refl _)
  have ho : okM (gauss M u) u = true := by
    rw [okM_iff]
    intro i h1 h2
    have h3 := (hi.sol x).2 hx i h2
    rw [dotN_zero _ _ _ fun j hj => hi.z i j h1 (by rw [← hi.len]; exact h2) hj] at h3
    have := hi.wid.rng i u
    unfold Cg at h3; omega
  exact ⟨_, by unfold solveL; rw [if_pos ho]⟩
end Go.Proofs.Ytbjmadcbhkeenaa.Fld
