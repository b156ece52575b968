/-
  Stirring loses nothing: states of 64 octets that are stirred to one are one (plain Lean, no program). No condition but octets.
-/
import Derived.Test.YtbljihhelladbaaStD
import Derived.Test.YtbljihhelladbaaStE
import Derived.Test.YtbljihhelladbaaNewt
namespace Go.Proofs.Ytbljihhelladbaa.st
open Go.RowKit Go.Proofs.Ytbljihhelladbaa.Fld

theorem ext_getD {l m : List Int} (hl : l.length = m.length) (h : ∀ i, i < l.length → l.getD i 0 = m.getD i 0) : l = m := by
  apply List.ext_getElem hl
  intro i h1 h2
  have := h i h1
  rwa [getD_lt' _ _ h1, getD_lt' _ _ h2] at this

theorem xor_cancel {a b c : Int} (ha : W32 a) (hb : W32 b) (hc : W32 c) (h : bits .xor .u32 a c = bits .xor .u32 b c) : a = b := by
  obtain ⟨ha0, ha1⟩ := ha
  obtain ⟨hb0, hb1⟩ := hb
  obtain ⟨hc0, hc1⟩ := hc
  obtain ⟨x, rfl⟩ := Int.eq_ofNat_of_zero_le ha0
  obtain ⟨y, rfl⟩ := Int.eq_ofNat_of_zero_le hb0
  obtain ⟨z, rfl⟩ := Int.eq_ofNat_of_zero_le hc0
  rw [u32_xor_nat _ _ (by omega) (by omega), u32_xor_nat _ _ (by omega) (by omega)] at h
  have h2 : x ^^^ z = y ^^^ z := Int.ofNat_inj.1 h
  have h3 : (x ^^^ z) ^^^ z = (y ^^^ z) ^^^ z := by rw [h2]
  rw [Nat.xor_assoc, Nat.xor_assoc, Nat.xor_self, Nat.xor_zero, Nat.xor_zero] at h3
  rw [h3]

theorem addW_inj {u v : List Int} {r i : Nat} (hu : u.length = 16) (hv : v.length = 16) (wu : AllW u) (wv : AllW v) (hr : r < 8) (hi : i < 16) (h : addW r i u = addW r i v) : u = v := by
  have hg : ∀ m, (addW r i u).getD m 0 = (addW r i v).getD m 0 := fun m => by rw [h]
  have hne : ∀ m, m ≠ i → u.getD m 0 = v.getD m 0 := fun m hm => by
    have := hg m
    rw [addW_eq, addW_eq, getD_set, getD_set, if_neg (by omega), if_neg (by omega)] at this
    exact this
  refine ext_getD (by omega) fun m _ => ?_
  by_cases hm : m = i
  · subst hm
    have h1 := hg m
    rw [addW_eq, addW_eq, getD_set, getD_set, if_pos ⟨rfl, by omega⟩, if_pos ⟨rfl, by omega⟩, hne ((m + 1 + r) % 16) (by omega)] at h1
    have h2 := wu.getD m
    have h3 := wv.getD m
    have h4 : W32 (addend r m (v.getD ((m + 1 + r) % 16) 0)) := w32_bits _ _ _
    generalize addend r m (v.getD ((m + 1 + r) % 16) 0) = A at h1 h4
    generalize u.getD m 0 = a at h1 h2 ⊢
    generalize v.getD m 0 = b at h1 h3 ⊢
    unfold W32 at h2 h3 h4
    omega
  · exact hne m hm

theorem xorW_inj {u v : List Int} {i : Nat} (hu : u.length = 16) (hv : v.length = 16) (wu : AllW u) (wv : AllW v) (h : xorW i u = xorW i v) : u = v := by
  have hg : ∀ m, (xorW i u).getD m 0 = (xorW i v).getD m 0 := fun m => by rw [h]
  have hne : ∀ m, m ≠ (i + 9) % 16 → u.getD m 0 = v.getD m 0 := fun m hm => by
    have := hg m
    unfold xorW at this
    rw [getD_set, getD_set, if_neg (by omega), if_neg (by omega)] at this
    exact this
  refine ext_getD (by omega) fun m _ => ?_
  by_cases hm : m = (i + 9) % 16
  · have h1 := hg m
    unfold xorW at h1
    rw [getD_set, getD_set, if_pos ⟨hm, by omega⟩, if_pos ⟨hm, by omega⟩, hne i (by omega), ← hm] at h1
    exact xor_cancel (wu.getD m) (wv.getD m) (w32_rotl _ _) h1
  · exact hne m hm

theorem stepTo_inj {u v : List Int} {r : Nat} (hu : u.length = 16) (hv : v.length = 16) (wu : AllW u) (wv : AllW v) (hr : r < 8) (i : Nat) (hi : i ≤ 16) (h : stepTo r u i = stepTo r v i) : u = v := by
  induction i with
  | zero => exact h
  | succ i ih =>
    have lu := stepTo_length r u i
    have lv := stepTo_length r v i
    have a1 : (addW r i (stepTo r u i)).length = 16 := by rw [addW_eq, List.length_set]; omega
    have a2 : (addW r i (stepTo r v i)).length = 16 := by rw [addW_eq, List.length_set]; omega
    have h1 : addW r i (stepTo r u i) = addW r i (stepTo r v i) := xorW_inj a1 a2 (addW_w (stepTo_w wu r i) r i) (addW_w (stepTo_w wv r i) r i) h
    exact ih (by omega) (addW_inj (by omega) (by omega) (stepTo_w wu r i) (stepTo_w wv r i) hr (by omega) h1)

theorem roundTo_inj {u v : List Int} (hu : u.length = 16) (hv : v.length = 16) (wu : AllW u) (wv : AllW v) (r : Nat) (hr : r ≤ 8) (h : roundTo u r = roundTo v r) : u = v := by
  induction r with
  | zero => exact h
  | succ r ih =>
    have lu := roundTo_length u r
    have lv := roundTo_length v r
    exact ih (by omega) (stepTo_inj (by omega) (by omega) (roundTo_w wu r) (roundTo_w wv r) (by omega) 16 (Nat.le_refl _) h)

theorem octL_getD (ws : List Int) (i j : Nat) (hi : i < 16) (hj : j < 4) : (octL ws 64).getD (4 * i + j) 0 = (o4 (ws.getD i 0)).getD j 0 := by
  unfold octL
  rw [List.getD_eq_getElem?_getD, List.getElem?_map, List.getElem?_range (by omega)]
  show (o4 (ws.getD ((4 * i + j) / 4) 0)).getD ((4 * i + j) % 4) 0 = _
  rw [show (4 * i + j) / 4 = i by omega, show (4 * i + j) % 4 = j by omega]
theorem octL_inj {u v : List Int} (hu : u.length = 16) (hv : v.length = 16) (wu : AllW u) (wv : AllW v) (h : octL u 64 = octL v 64) : u = v := by
  refine ext_getD (by omega) fun i hi => ?_
  have e : ∀ j, j < 4 → (o4 (u.getD i 0)).getD j 0 = (o4 (v.getD i 0)).getD j 0 := fun j hj => by
    rw [← octL_getD u i j (by omega) hj, ← octL_getD v i j (by omega) hj, h]
  have e0 : u.getD i 0 / 16777216 % 256 = v.getD i 0 / 16777216 % 256 := e 0 (by omega)
  have e1 : u.getD i 0 / 65536 % 256 = v.getD i 0 / 65536 % 256 := e 1 (by omega)
  have e2 : u.getD i 0 / 256 % 256 = v.getD i 0 / 256 % 256 := e 2 (by omega)
  have e3 : u.getD i 0 % 256 = v.getD i 0 % 256 := e 3 (by omega)
  have h1 := wu.getD i
  have h2 := wv.getD i
  unfold W32 at h1 h2
  omega
theorem wordsL_getD (s : List Int) (i : Nat) (hi : i < 16) : (wordsL s 16).getD i 0 = w4 (s.getD (4 * i) 0) (s.getD (4 * i + 1) 0) (s.getD (4 * i + 2) 0) (s.getD (4 * i + 3) 0) := by
  unfold wordsL
  rw [List.getD_eq_getElem?_getD, List.getElem?_map, List.getElem?_range hi]
  rfl
theorem wordsL_inj {s t : List Int} (hs : s.length = 64) (ht : t.length = 64) (os : Octs s) (ot : Octs t) (h : wordsL s 16 = wordsL t 16) : s = t := by
  refine ext_getD (by omega) fun m hm => ?_
  obtain ⟨i, j, rfl, hj⟩ : ∃ i j : Nat, m = 4 * i + j ∧ j < 4 := ⟨m / 4, m % 4, by omega, by omega⟩
  have e := wordsL_getD s i (by omega)
  rw [h, wordsL_getD t i (by omega)] at e
  have a0 := os.getD (4 * i)
  have a1 := os.getD (4 * i + 1)
  have a2 := os.getD (4 * i + 2)
  have a3 := os.getD (4 * i + 3)
  have b0 := ot.getD (4 * i)
  have b1 := ot.getD (4 * i + 1)
  have b2 := ot.getD (4 * i + 2)
  have b3 := ot.getD (4 * i + 3)
  unfold w4 at e
  unfold Oct at a0 a1 a2 a3 b0 b1 b2 b3
  match j, hj with
  | 0, _ => simp only [Nat.add_zero]; omega
  | 1, _ => omega
  | 2, _ => omega
  | 3, _ => omega

theorem stirL_inj {s t : List Int} (hs : s.length = 64) (ht : t.length = 64) (os : Octs s) (ot : Octs t) (h : stirL s = stirL t) : s = t := by
  have ws := wordsL_w os
  have wt := wordsL_w ot
  have ls := wordsL_length s 16
  have lt := wordsL_length t 16
  have rs := roundTo_length (wordsL s 16) 8
  have rt := roundTo_length (wordsL t 16) 8
  have h1 := octL_inj (by omega) (by omega) (roundTo_w ws 8) (roundTo_w wt 8) h
  exact wordsL_inj hs ht os ot (roundTo_inj ls lt ws wt 8 (Nat.le_refl _) h1)
end Go.Proofs.Ytbljihhelladbaa.st
