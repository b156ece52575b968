/-
  Shares of a secret, plain: any of them that are enough give the secret and agree; picks of them are right shares. No program, no condition but the form.
-/
import Derived.Test.YtbljihhelladbaaSpD
import Derived.Test.YtbljihhelladbaaShO
namespace Go.Proofs.Ytbljihhelladbaa.shr
open Go.RowKit Go.Proofs.Ytbljihhelladbaa.sh Go.Proofs.Ytbljihhelladbaa.Fld Go.Proofs.Ytbljihhelladbaa.cm
set_option linter.unusedSimpArgs false
set_option linter.unusedVariables false
set_option pp.maxSteps 6000

theorem each_of (l : List Sh) (h : ∀ k, k < l.length → faultIn (l.take k) (l.getD k nil) = 0) : eachE l = 0 := by
  have : ∀ k, k ≤ l.length → eachTo l k = 0 := by
    intro k
    induction k with
    | zero => intro _; rfl
    | succ k ih => intro hk; exact eachTo_step l k (ih (by omega)) (h k (by omega))
  exact this l.length (Nat.le_refl _)
theorem nodup_le : ∀ (n : Nat) (I : List Nat), I.Nodup → (∀ i ∈ I, i < n) → I.length ≤ n
  | 0, [], _, _ => Nat.le_refl _
  | 0, i :: I, _, h => absurd (h i (List.mem_cons_self ..)) (Nat.not_lt_zero _)
  | n + 1, I, hn, h => by
    have h2 := nodup_le n (I.erase n) (hn.erase n) (fun i hi => by
      have h3 := (List.Nodup.mem_erase_iff hn).1 hi
      have := h i h3.2
      omega)
    rw [List.length_erase] at h2
    split at h2 <;> omega

/-- the share of number i, and picks by their numbers -/
def shI (f : Nat → List Int) (l : List (List Int)) (i : Nat) : Sh := onSh f (plc l i)
theorem shI_x (f : Nat → List Int) (l : List (List Int)) (i : Nat) : (shI f l i).x = (i : Int) + 1 := rfl
theorem shI_h (f : Nat → List Int) (l : List (List Int)) (i : Nat) : (shI f l i).h = l.getD i [] := rfl
theorem shI_y (f : Nat → List Int) (l : List (List Int)) (i o : Nat) (ho : o < 32) : (shI f l i).y.getD o 0 = ev (f o) ((i : Int) + 1) % 257 := shTo_y _ _ _ o ho
theorem shI_get (f : Nat → List Int) (l : List (List Int)) {i : Nat} (hi : i < l.length) : (onAll f (plcAll l)).getD i nil = shI f l i := by simp [onAll, plcAll, shI, List.getD_eq_getElem?_getD, hi]
theorem shI_eq (f : Nat → List Int) (l : List (List Int)) (i j : Nat) : eqS (shI f l i) (shI f l j) = decide (i = j) := by
  by_cases h : i = j
  · subst h; rw [eqS_refl]; simp
  · have : ¬ eqS (shI f l i) (shI f l j) = true := fun hc => by
      have := congrArg Sh.x ((eqS_iff _ _).1 hc)
      rw [shI_x, shI_x] at this
      omega
    simp [h, this]
/-- the picks: the numbers of the shares picked -/
def pickOf (n : Nat) (v : Int) : Nat := ((v % 18446744073709551616) % (n : Int)).toNat
def pickTo (n : Nat) (p : List Int) : Nat → List Nat
  | 0 => []
  | k + 1 => if (pickTo n p k).contains (pickOf n (p.getD k 0)) then pickTo n p k else pickTo n p k ++ [pickOf n (p.getD k 0)]
theorem pickOf_lt {n : Nat} (hn : 0 < n) (v : Int) : pickOf n v < n := by
  unfold pickOf
  have h1 := Int.emod_lt_of_pos (v % 18446744073709551616) (show (0 : Int) < n by omega)
  have h2 := Int.emod_nonneg (v % 18446744073709551616) (show (n : Int) ≠ 0 by omega)
  omega
theorem pickTo_nodup (n : Nat) (p : List Int) (k : Nat) : (pickTo n p k).Nodup := by
  induction k with
  | zero => exact List.nodup_nil
  | succ k ih =>
    unfold pickTo
    split
    · exact ih
    · rename_i h
      rw [List.nodup_append]
      refine ⟨ih, by simp, fun a ha b hb => ?_⟩
      rw [List.mem_singleton.1 hb]
      intro e
      rw [e] at ha
      exact h (by simpa using ha)
theorem pickTo_lt {n : Nat} (hn : 0 < n) (p : List Int) (k : Nat) : ∀ i ∈ pickTo n p k, i < n := by
  induction k with
  | zero => intro i hi; cases hi
  | succ k ih =>
    unfold pickTo
    split
    · exact ih
    · intro i hi
      rcases List.mem_append.1 hi with h | h
      · exact ih i h
      · rw [List.mem_singleton.1 h]; exact pickOf_lt hn _
theorem any_pick (f : Nat → List Int) (l : List (List Int)) (I : List Nat) (i : Nat) : (I.map (shI f l)).any (eqS (shI f l i)) = I.contains i := by
  induction I with
  | nil => rfl
  | cons j I ih =>
    rw [List.map_cons, List.any_cons, ih, shI_eq, List.contains_cons]
    congr 1

theorem ord_lt {l : List (List Int)} (h : ordTo l l.length = true) : ∀ j i, i < j → j < l.length → cmpL (l.getD i []) (l.getD j []) < 0 := by
  have h1 : ∀ i, i + 1 < l.length → cmpL (l.getD i []) (l.getD (i + 1) []) < 0 := by
    intro i hi
    unfold ordTo at h
    rw [List.all_eq_true] at h
    have := h (i + 1) (by simpa using hi)
    unfold ordAt at this
    simpa using this
  intro j
  induction j with
  | zero => intro i hi; omega
  | succ j ih =>
    intro i hi hj
    by_cases e : i = j
    · subst e; exact h1 i hj
    · exact cmpL_trans _ _ _ (ih i (by omega) (by omega)) (h1 j hj)
theorem ord_ne {l : List (List Int)} (h : ordTo l l.length = true) {i j : Nat} (hi : i < l.length) (hj : j < l.length) (hne : i ≠ j) : l.getD i [] ≠ l.getD j [] := by
  intro e
  rcases Nat.lt_or_gt_of_ne hne with hlt | hlt
  · have := ord_lt h j i hlt hj
    rw [e, cmpL_refl] at this
    omega
  · have := ord_lt h i j hlt hi
    rw [e, cmpL_refl] at this
    omega

theorem getD_map_shI (f : Nat → List Int) (l : List (List Int)) (I : List Nat) (k : Nat) (hk : k < I.length) : (I.map (shI f l)).getD k nil = shI f l (I.getD k 0) := by simp [List.getD_eq_getElem?_getD, hk]
theorem picks_each (f : Nat → List Int) (l : List (List Int)) (hl32 : l.length ≤ 32) (ho : ordTo l l.length = true) (I : List Nat) (hn : I.Nodup) (hI : ∀ i ∈ I, i < l.length) : eachE (I.map (shI f l)) = 0 := by
  refine each_of _ fun k hk => ?_
  rw [List.length_map] at hk
  rw [getD_map_shI f l I k hk, ← List.map_take]
  have hmem : I.getD k 0 ∈ I := by rw [getD_lt I 0 hk]; exact List.getElem_mem hk
  have hik := hI _ hmem
  have h1 : inB (shI f l (I.getD k 0)).x 1 256 = true := by rw [shI_x]; generalize I.getD k 0 = q at hik; simp [inB]; omega
  have h2 : ((I.take k).map (shI f l)).any (same (shI f l (I.getD k 0))) = false := by
    rw [List.any_eq_false]
    intro t ht
    obtain ⟨j, hj, rfl⟩ := List.mem_map.1 ht
    have hjI := List.mem_of_mem_take hj
    have hne : j ≠ I.getD k 0 := by
      intro e
      obtain ⟨q, hq, hq2⟩ := List.mem_take_iff_getElem.1 hj
      have hq' : q < k := by omega
      have hqI : q < I.length := by omega
      have e2 : I[q] = I[k] := by rw [hq2, e, getD_lt I 0 hk]
      have := (List.getElem_inj hn).1 e2
      omega
    unfold same
    rw [shI_x, shI_x, shI_h, shI_h]
    have e1 : ((j : Int) + 1 == ((I.getD k 0 : Nat) : Int) + 1) = false := by generalize I.getD k 0 = q at hne; simp; omega
    have e2 : (l.getD j [] == l.getD (I.getD k 0) []) = false := by
      have := ord_ne ho (hI j hjI) hik hne
      simpa using this
    rw [e1, e2]; decide
  have h3 : badY (shI f l (I.getD k 0)) = false := by
    unfold badY
    rw [List.any_eq_false]
    intro c hc
    have hl : (shI f l (I.getD k 0)).y.length = 32 := st.fillTo_length _ _ _ (by omega)
    obtain ⟨o, ho, rfl⟩ := List.getElem_of_mem hc
    rw [hl] at ho
    have := shI_y f l (I.getD k 0) o ho
    rw [getD_lt _ _ (by rw [hl]; exact ho)] at this
    rw [this]
    simp
    omega
  unfold faultIn
  rw [if_neg (by rw [h1]; decide), if_neg (by rw [h2]; decide), if_neg (by rw [h3]; decide)]

/-- enough shares: the polynomials through them are those of the secret -/
theorem picks_val (f : Nat → List Int) (l : List (List Int)) (m : Nat) (hf : ∀ o, (f o).length ≤ m) (A : List Nat) (hA : A.length = m) (hg : Good (A.map (shI f l))) (o : Nat) (ho : o < 32) (t : Int) : valAt (A.map (shI f l)) o t = ev (f o) t % 257 := by
  have hpad : ∀ x, ev (f o ++ List.replicate (m - (f o).length) 0) x = ev (f o) x := fun x => by rw [ev_append, ev_replicate]; simp
  have hi : Interp (xsOf (A.map (shI f l))) (ysOf (A.map (shI f l)) o) (f o ++ List.replicate (m - (f o).length) 0) := by
    refine ⟨by rw [xsOf_length, List.length_map, hA, List.length_append, List.length_replicate]; have := hf o; omega, fun i hi => ?_⟩
    rw [xsOf_length, List.length_map] at hi
    rw [xsOf_getD _ i (by rw [List.length_map]; exact hi), ysOf_getD _ o i (by rw [List.length_map]; exact hi), getD_map_shI f l A i hi, hpad, shI_x, shI_y f l _ o ho]
    exact (Cg.mod _).symm
  unfold valAt
  rw [atR_interp hg.ap hi t, hpad]

theorem ev_at0 (c : Int) (p : List Int) : ev (c :: p) 0 = c := by unfold ev; simp
/-- the secret of enough shares; and all agree -/
theorem picks_secret (secret seed : List Int) (l : List (List Int)) (m : Nat) (hm1 : 1 ≤ m) (hc : secret.length = 32) (hco : st.Octs secret) (A : List Nat) (hA : A.length = m) (hg : Good (A.map (shI (polyS secret m seed) l))) : faultAt0 (A.map (shI (polyS secret m seed) l)) = false ∧ secretOf (A.map (shI (polyS secret m seed) l)) = secret := by
  have hv : ∀ o, o < 32 → valAt (A.map (shI (polyS secret m seed) l)) o 0 = secret.getD o 0 := fun o ho => by
    rw [picks_val _ l m (fun o => polyS_len secret hm1 seed o) A hA hg o ho 0]
    show ev (secret.getD o 0 :: _) 0 % 257 = _
    rw [ev_at0]
    have h : 0 ≤ secret.getD o 0 ∧ secret.getD o 0 ≤ 255 := hco.getD o
    omega
  have hf : faultAt0 (A.map (shI (polyS secret m seed) l)) = false := fault0_not _ fun o ho => by
    rw [hv o ho]
    have h : 0 ≤ secret.getD o 0 ∧ secret.getD o 0 ≤ 255 := hco.getD o
    omega
  refine ⟨hf, ?_⟩
  unfold secretOf
  rw [if_neg (by rw [hf]; decide)]
  unfold secretTo
  apply List.ext_getElem
  · simp [hc]
  · intro i h1 h2
    simp only [List.length_map, List.length_range] at h1
    rw [List.getElem_map, List.getElem_range, hv i h1, getD_lt _ _ (by omega)]
theorem picks_agree (f : Nat → List Int) (l : List (List Int)) (m : Nat) (hf : ∀ o, (f o).length ≤ m) (I : List Nat) (hI : m ≤ I.length) (hg : Good ((I.map (shI f l)).take m)) : agreeB (I.map (shI f l)) m = true := by
  unfold agreeB
  rw [List.all_eq_true]
  intro t ht
  obtain ⟨j, hj, rfl⟩ := List.mem_map.1 (List.mem_of_mem_drop ht)
  unfold liesB liesTo
  rw [List.all_eq_true]
  intro o ho
  have ho' : o < 32 := by simpa using ho
  rw [← List.map_take] at hg ⊢
  rw [picks_val f l m hf (I.take m) (by rw [List.length_take]; omega) hg o ho', shI_y f l j o ho', shI_x]
  simp
end Go.Proofs.Ytbljihhelladbaa.shr
