/-
  The walks of the law NumbersAreModular: it returns true at every two numbers. No condition.
-/
import Derived.Test.YtlhfoelabanlfaaShA
namespace Go.Proofs.Ytlhfoelabanlfaa.numbersAreModular
set_option linter.unusedSimpArgs false
open Go.RowKit
open Go.Proofs.Ytlhfoelabanlfaa.sh Go.Proofs.Ytlhfoelabanlfaa.Fld

theorem inB_yes {n : Int} (h : 0 ≤ n ∧ n ≤ 256) : inB n 0 256 = true := by simp [inB]; omega
theorem inB_no {n : Int} (h : ¬ (0 ≤ n ∧ n ≤ 256)) : inB n 0 256 = false := by simp [inB]; omega

theorem over_mul (a b : Int) (ha : 0 ≤ a ∧ a ≤ 256) (hb : 0 ≤ b ∧ b ≤ 256) (h0 : b ≠ 0) : overP a b * b % 257 = a := by
  have hb0 : ¬ Cg b 0 := by unfold Cg; omega
  have h1 : Cg (overP a b * b) (a * (b * inv b)) := (Cg.mul_right b (overP_cg a b)).trans (Cg.of_eq (by (simp only [Int.mul_add, Int.add_mul, Int.mul_sub, Int.sub_mul, Int.mul_assoc, Int.mul_left_comm, Int.mul_comm, Int.one_mul, Int.mul_one, Int.pow_succ] <;> omega)))
  have h2 := h1.trans (Cg.mul_left a (mul_inv hb0))
  unfold Cg at h2
  omega

theorem bel {w w1 w2 : World} (h : Below w.heap.size w w1) (k : Below w1.heap.size w1 w2) : Below w.heap.size w w2 := h.trans (k.mono h.size)

set_option maxHeartbeats 1000000 in
theorem walk_out (a b : Int) (w : World) (h : ¬ ((0 ≤ a ∧ a ≤ 256) ∧ (0 ≤ b ∧ b ≤ 256))) :
    Calls Try.prog 3 #[.int .i64 a, .int .i64 b] w fun e w' => e = .returned (.bool true) ∧ Below w.heap.size w w' := by
  have H := hid h
  by_cases ha : 0 ≤ a ∧ a ≤ 256
  · have h1 := inB_yes ha
    have h2 := inB_no (n := b) (fun hb => h ⟨ha, hb⟩)
    clear h ha
    go_enter Try.func3, Try.ntmps3
    go_wp2_with (first | (go_at_call 14; refine (plus_no _ _ _ H.out).mono ?_; rintro e w1 ⟨rfl, b1⟩) | (go_at_call 15; refine (times_no _ _ _ H.out).mono ?_; rintro e w2 ⟨rfl, b2⟩) | (go_at_call 16; refine (Over_no _ _ _ H.out).mono ?_; rintro e w3 ⟨rfl, rfl⟩) | (go_at_call 17; refine (In_any _ _ _ _).mono ?_; rintro e w4 ⟨rfl, rfl⟩) | (go_at_call 18; refine (shares_any _).mono ?_; rintro e w5 ⟨rfl, b5⟩))
    go_ret
    exact ⟨rfl, bel (bel b1 b2) b5⟩
  · have h1 := inB_no ha
    clear h ha
    go_enter Try.func3, Try.ntmps3
    go_wp2_with (first | (go_at_call 14; refine (plus_no _ _ _ H.out).mono ?_; rintro e w1 ⟨rfl, b1⟩) | (go_at_call 15; refine (times_no _ _ _ H.out).mono ?_; rintro e w2 ⟨rfl, b2⟩) | (go_at_call 16; refine (Over_no _ _ _ H.out).mono ?_; rintro e w3 ⟨rfl, rfl⟩) | (go_at_call 17; refine (In_any _ _ _ _).mono ?_; rintro e w4 ⟨rfl, rfl⟩) | (go_at_call 18; refine (shares_any _).mono ?_; rintro e w5 ⟨rfl, b5⟩))
    go_ret
    exact ⟨rfl, bel (bel b1 b2) b5⟩

set_option maxHeartbeats 1000000 in
theorem walk_zero (a : Int) (w : World) (ha : 0 ≤ a ∧ a ≤ 256) :
    Calls Try.prog 3 #[.int .i64 a, .int .i64 0] w fun e w' => e = .returned (.bool true) ∧ Below w.heap.size w w' := by
  have h1 := inB_yes ha
  have h2 : inB 0 0 256 = true := by decide
  go_enter Try.func3, Try.ntmps3
  go_wp2_with (first | (go_at_call 14; refine (plus_yes _ _ _ ha (by decide)).mono ?_; rintro e w1 ⟨rfl, b1⟩) | (go_at_call 15; refine (times_yes _ _ _ ha (by decide)).mono ?_; rintro e w2 ⟨rfl, b2⟩) | (go_at_call 16; refine (Over_zero _ _ ha).mono ?_; rintro e w3 ⟨rfl, rfl⟩) | (go_at_call 17; refine (In_any _ _ _ _).mono ?_; rintro e w4 ⟨rfl, rfl⟩) | (go_at_call 18; refine (shares_any _).mono ?_; rintro e w5 ⟨rfl, b5⟩))
  go_ret
  exact ⟨rfl, bel (bel b1 b2) b5⟩

set_option maxHeartbeats 1000000 in
theorem walk_yes (a b : Int) (w : World) (ha : 0 ≤ a ∧ a ≤ 256) (hb : 0 ≤ b ∧ b ≤ 256) (h0 : b ≠ 0) :
    Calls Try.prog 3 #[.int .i64 a, .int .i64 b] w fun e w' => e = .returned (.bool true) ∧ Below w.heap.size w w' := by
  have h1 := inB_yes ha
  have h2 := inB_yes hb
  have h3 := inB_yes (overP_range a b)
  have hm := mul_bd ha hb
  have ho := overP_range a b
  have hmo := mul_bd ho hb
  have he : (overP a b * b % 257 == a) = true := by rw [over_mul a b ha hb h0]; simp
  go_enter Try.func3, Try.ntmps3
  go_wp2_with (first | (go_at_call 14; refine (plus_yes _ _ _ ha hb).mono ?_; rintro e w1 ⟨rfl, b1⟩) | (go_at_call 15; refine (times_yes _ _ _ ha hb).mono ?_; rintro e w2 ⟨rfl, b2⟩) | (go_at_call 16; refine (Over_yes _ _ _ ha hb h0).mono ?_; rintro e w3 ⟨rfl, rfl⟩) | (go_at_call 17; refine (In_any _ _ _ _).mono ?_; rintro e w4 ⟨rfl, rfl⟩) | (go_at_call 18; refine (shares_any _).mono ?_; rintro e w5 ⟨rfl, b5⟩))
  go_ret
  exact ⟨rfl, bel (bel b1 b2) b5⟩

theorem walk (a b : Int) (w : World) :
    Calls Try.prog 3 #[.int .i64 a, .int .i64 b] w fun e w' => e = .returned (.bool true) ∧ Below w.heap.size w w' := by
  by_cases h : (0 ≤ a ∧ a ≤ 256) ∧ (0 ≤ b ∧ b ≤ 256)
  · by_cases h0 : b = 0
    · subst h0; exact walk_zero a w h.1
    · exact walk_yes a b w h.1 h.2 h0
  · exact walk_out a b w h

end Go.Proofs.Ytlhfoelabanlfaa.numbersAreModular
