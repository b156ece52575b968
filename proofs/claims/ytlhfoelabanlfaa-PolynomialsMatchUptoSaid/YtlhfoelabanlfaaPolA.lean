/-
  The law PolynomialsMatch: what its loops reckon (plain), and the closure's contract. No condition.
-/
import Derived.Test.YtlhfoelabanlfaaShD
import Derived.Test.YtlhfoelabanlfaaSlInt
namespace Go.Proofs.Ytlhfoelabanlfaa.pol
open Go.RowKit Go.Proofs.Ytlhfoelabanlfaa.Fld Go.Proofs.Ytlhfoelabanlfaa.sh

/-- the error so far, behind k numbers that must be from 0 to 256 -/
def wantTo (w0 : Int) (l : List Int) : Nat → Int
  | 0 => w0
  | k + 1 => firstE2 (wantTo w0 l k) (whenE (!inB (l.getD k 0) 0 256) 4)

theorem inB_isN (n : Int) : inB n 0 256 = isN n := by
  unfold inB isN
  congr 1
  apply decide_eq_decide.2
  omega

theorem wantTo_zero (l : List Int) (k : Nat) (hk : k ≤ l.length) : wantTo 0 l k = if allN (l.take k) then 0 else 4 := by
  induction k with
  | zero => rfl
  | succ k ih =>
    show firstE2 (wantTo 0 l k) (whenE (!inB (l.getD k 0) 0 256) 4) = _
    rw [ih (by omega), allN_take_succ l k (by omega), inB_isN]
    cases allN (l.take k)
    · rfl
    · cases isN (l.getD k 0) <;> rfl
theorem wantTo_ne {w0 : Int} (h : w0 ≠ 0) (l : List Int) (k : Nat) : wantTo w0 l k = w0 := by
  induction k with
  | zero => rfl
  | succ k ih =>
    show firstE2 (wantTo w0 l k) (whenE (!inB (l.getD k 0) 0 256) 4) = _
    rw [ih]; exact firstE2_ne _ h

theorem allN_append (l m : List Int) : allN (l ++ m) = (allN l && allN m) := by unfold allN; rw [List.all_append]

/-- the first want is Value's error -/
theorem want_val (l : List Int) (x : Int) : wantTo (whenE (decide ((64 : Int) < (l.length : Int))) 5) (l ++ [x]) (l.length + 1) = valE l x := by
  unfold valE
  by_cases h : 64 < l.length
  · rw [if_pos h, show decide ((64 : Int) < (l.length : Int)) = true by simp; omega, whenE_true]; exact wantTo_ne (by decide) _ _
  · rw [if_neg h, show decide ((64 : Int) < (l.length : Int)) = false by simp; omega, whenE_false, wantTo_zero _ _ (by simp), List.take_of_length_le (by simp), allN_append]
    have e : allN [x] = isN x := by simp [allN]
    rw [e]
    cases allN l <;> cases isN x <;> rfl

/-- the error so far, behind k places that must be different -/
def dupTo (w0 : Int) (l : List Int) : Nat → Int
  | 0 => w0
  | k + 1 => firstE2 (dupTo w0 l k) (whenE ((l.take k).any fun y => l.getD k 0 == y) 8)

theorem dupTo_zero (l : List Int) (k : Nat) : dupTo 0 l k = if twiceTo l k then 8 else 0 := by
  induction k with
  | zero => rfl
  | succ k ih =>
    show firstE2 (dupTo 0 l k) (whenE (dupAt l k) 8) = _
    rw [ih, twiceTo_succ]
    cases twiceTo l k
    · cases dupAt l k <;> rfl
    · rfl
theorem dupTo_ne {w0 : Int} (h : w0 ≠ 0) (l : List Int) (k : Nat) : dupTo w0 l k = w0 := by
  induction k with
  | zero => rfl
  | succ k ih =>
    show firstE2 (dupTo w0 l k) (whenE (dupAt l k) 8) = _
    rw [ih]; exact firstE2_ne _ h

/-- the second want is Through's error -/
theorem want_thr (xs ys : List Int) : dupTo (wantTo (firstE2 (whenE ((xs.length : Int) != (ys.length : Int)) 2) (whenE (decide ((64 : Int) < (xs.length : Int))) 5)) (xs ++ ys) (xs.length + ys.length)) xs xs.length = thrE xs ys := by
  unfold thrE
  by_cases h1 : xs.length = ys.length
  · have e1 : ((xs.length : Int) != (ys.length : Int)) = false := by rw [h1]; simp
    rw [e1, whenE_false, firstE2_zero, if_neg (fun h => h h1)]
    by_cases h2 : 64 < xs.length
    · rw [if_pos h2, show decide ((64 : Int) < (xs.length : Int)) = true by simp; omega, whenE_true, wantTo_ne (by decide)]
      exact dupTo_ne (by decide) _ _
    · rw [if_neg h2, show decide ((64 : Int) < (xs.length : Int)) = false by simp; omega, whenE_false, wantTo_zero _ _ (by simp), List.take_of_length_le (by simp), allN_append]
      cases allN xs && allN ys
      · exact dupTo_ne (by decide) _ _
      · exact dupTo_zero _ _
  · have e1 : ((xs.length : Int) != (ys.length : Int)) = true := by simp; omega
    have e2 : ∀ y, firstE2 (whenE true 2) y = 2 := fun y => rfl
    rw [e1, e2, if_pos h1, wantTo_ne (by decide)]
    exact dupTo_ne (by decide) _ _

theorem closure_any (c : Int) (w : World) : Calls Try.prog 31 #[.int .i64 c] w fun e w' => e = .returned (.bool (!isN c)) ∧ Below w.heap.size w w' := by
  have H := hid (inB_isN c)
  go_enter Try.func31, Try.ntmps31
  go_wp2_with (go_at_call 17; refine (In_any _ _ _ _).mono ?_; rintro e w4 ⟨rfl, rfl⟩)
  go_ret
  exact ⟨rv (rb (by rw [← H.out])), Below.refl _ _⟩

end Go.Proofs.Ytlhfoelabanlfaa.pol
