/-
  Contracts of share.isNumber, over, Plus, Times, Over, keyref2.In, keylaw2.shares. No condition beyond the ranges that are named.
-/
import Derived.Test.YtbljihhelladbaaMem
import Derived.Test.YtbljihhelladbaaNum
namespace Go.Proofs.Ytbljihhelladbaa.sh
open Go.RowKit Go.Proofs.Ytbljihhelladbaa.Fld

/-- from 0 to 256 -/
def isN (n : Int) : Bool := decide (0 ≤ n) && decide (n < 257)
theorem isN_yes {n : Int} (h : 0 ≤ n ∧ n ≤ 256) : isN n = true := by simp [isN]; omega
theorem isN_no {n : Int} (h : ¬ (0 ≤ n ∧ n ≤ 256)) : isN n = false := by simp [isN]; omega
theorem isN_iff (n : Int) : isN n = true ↔ 0 ≤ n ∧ n ≤ 256 := by simp [isN]; omega

theorem isNumber_any (n : Int) (w : World) : Calls Try.prog 155 #[.int .i64 n] w fun e w' => e = .returned (.bool (isN n)) ∧ w = w' := by
  by_cases h1 : 0 ≤ n
  · by_cases h2 : n < 257
    · go_enter Try.func155, Try.ntmps155
      go_wp2
      go_ret
      exact ⟨by simp [isN, h1, h2], rfl⟩
    · go_enter Try.func155, Try.ntmps155
      go_wp2
      go_ret
      exact ⟨by simp [isN, h2], rfl⟩
  · go_enter Try.func155, Try.ntmps155
    go_wp2
    go_ret
    exact ⟨rv (rb (by simp [isN]; omega)), rfl⟩

def inB (n low high : Int) : Bool := decide (low ≤ n) && decide (n ≤ high)
theorem In_any (n low high : Int) (w : World) : Calls Try.prog 16 #[.int .i64 n, .int .i64 low, .int .i64 high] w fun e w' => e = .returned (.bool (inB n low high)) ∧ w = w' := by
  by_cases h1 : low ≤ n
  · by_cases h2 : n ≤ high
    · go_enter Try.func16, Try.ntmps16
      go_wp2
      go_ret
      exact ⟨by simp [inB, h1, h2], rfl⟩
    · go_enter Try.func16, Try.ntmps16
      go_wp2
      go_ret
      exact ⟨rv (rb (by simp [inB]; omega)), rfl⟩
  · go_enter Try.func16, Try.ntmps16
    go_wp2
    go_ret
    exact ⟨rv (rb (by simp [inB]; omega)), rfl⟩

theorem mul_bd {a b : Int} (ha : 0 ≤ a ∧ a ≤ 256) (hb : 0 ≤ b ∧ b ≤ 256) : 0 ≤ a * b ∧ a * b ≤ 65536 :=
  ⟨Int.mul_nonneg ha.1 hb.1, by have := Int.mul_le_mul ha.2 hb.2 hb.1 (by omega); omega⟩

/-- the power's loop, as the program goes: n halves -/
theorem powGo_zero (f : Nat) (p b : Int) : powGo f 0 p b = p := by cases f <;> simp [powGo]
theorem powGo_step (f n : Nat) (p b : Int) (h : 0 < n) : powGo (f + 1) n p b = powGo f (n / 2) (if n % 2 = 1 then p * b % 257 else p) (b * b % 257) := by
  rw [powGo, if_neg (by omega)]

theorem over_any (a b : Int) (w : World) (ha : 0 ≤ a ∧ a ≤ 256) (hb : 0 ≤ b ∧ b ≤ 256) : Calls Try.prog 156 #[.int .i64 a, .int .i64 b] w fun e w' => e = .returned (.int .i64 (overP a b)) ∧ w = w' := by
  go_enter Try.func156, Try.ntmps156
  go_wp2
  go_loop [5, 6, 7] (fun p q n => ∃ (k f : Nat) (x y : Int), k ≤ 255 ∧ n = .int .i64 k ∧ p = .int .i64 x ∧ q = .int .i64 y ∧ (0 ≤ x ∧ x ≤ 256) ∧ (0 ≤ y ∧ y ≤ 256) ∧ k < 2 ^ f ∧ powGo f k x y = powGo 9 255 1 b)
    (fun _ _ n => (intOf n).toNat)
  case atStart => exact ⟨255, 9, 1, b, by omega, rfl, rfl, rfl, by omega, hb, by omega, rfl⟩
  case round =>
    obtain ⟨k, f, x, y, hk, rfl, rfl, rfl, hx, hy, hf, he⟩ := hrel
    have hxy := mul_bd hx hy
    have hyy := mul_bd hy hy
    have HE := hid he; clear he
    have HF := hid hf; clear hf
    have hax := mul_bd ha hx
    by_cases h0 : 0 < k
    · have hf1 : ∃ f', f = f' + 1 := by
        cases f with
        | zero => have := HF.out; omega
        | succ f' => exact ⟨f', rfl⟩
      obtain ⟨f', rfl⟩ := hf1
      have HS := hid (powGo_step f' k x y h0)
      have HK : Hid (k / 2 < 2 ^ f') := by have := HF.out; show k / 2 < 2 ^ f'; rw [Nat.pow_succ] at this; omega
      by_cases h1 : k % 2 = 1
      · go_wp2
        go_round
        case rel => exact ⟨k / 2, f', x * y % 257, y * y % 257, by omega, by go_num, rfl, rfl, mod_range _, mod_range _, HK.out, by rw [← HE.out, HS.out, if_pos h1]⟩
        case measure => simp [intOf]; omega
      · go_wp2
        go_round
        case rel => exact ⟨k / 2, f', x, y * y % 257, by omega, by go_num, rfl, rfl, hx, mod_range _, HK.out, by rw [← HE.out, HS.out, if_neg h1]⟩
        case measure => simp [intOf]; omega
    · have hk0 : k = 0 := by omega
      have HZ : Hid (x = powGo 9 255 1 b) := by have := HE.out; rw [hk0, powGo_zero] at this; exact this
      clear hk0
      go_wp2
      go_ret
      exact ⟨rv (ri (by unfold overP; rw [← HZ.out])), rfl⟩

theorem times_yes (a b : Int) (w : World) (ha : 0 ≤ a ∧ a ≤ 256) (hb : 0 ≤ b ∧ b ≤ 256) :
    Calls Try.prog 88 #[.int .i64 a, .int .i64 b] w fun e w' => e = .returned (.tuple #[.int .i64 ((a * b) % 257), .int .i64 0]) ∧ Below w.heap.size w w' := by
  have hmf : ∀ (fn : Fn) (first cap : Array Value) (w : World), (Instr.makeFunc fn first cap).run Try.prog w = .ok (.func fn first cap) w := fun _ _ _ _ => rfl
  have h1 := isN_yes ha
  have h2 := isN_yes hb
  have hm := mul_bd ha hb
  go_enter Try.func88, Try.ntmps88
  go_wp2_with (first | (go_at_call 155; refine (isNumber_any _ _).mono ?_; rintro e w1 ⟨rfl, rfl⟩) | go_in)
  go_ret2
  exact ⟨rfl, (((Below.refl _ _).alloc (Nat.le_refl _) _).alloc (by simp) _)⟩

theorem times_no (a b : Int) (w : World) (h : ¬ ((0 ≤ a ∧ a ≤ 256) ∧ (0 ≤ b ∧ b ≤ 256))) :
    Calls Try.prog 88 #[.int .i64 a, .int .i64 b] w fun e w' => e = .returned (.tuple #[.int .i64 0, .int .i64 4]) ∧ Below w.heap.size w w' := by
  have hmf : ∀ (fn : Fn) (first cap : Array Value) (w : World), (Instr.makeFunc fn first cap).run Try.prog w = .ok (.func fn first cap) w := fun _ _ _ _ => rfl
  by_cases ha : 0 ≤ a ∧ a ≤ 256
  · have h1 := isN_yes ha
    have h2 := isN_no (n := b) (fun hb => h ⟨ha, hb⟩)
    clear h
    go_enter Try.func88, Try.ntmps88
    go_wp2_with (first | (go_at_call 155; refine (isNumber_any _ _).mono ?_; rintro e w1 ⟨rfl, rfl⟩) | go_in)
    go_ret2
    exact ⟨rfl, (((Below.refl _ _).alloc (Nat.le_refl _) _).alloc (by simp) _)⟩
  · have h1 := isN_no ha
    clear h ha
    go_enter Try.func88, Try.ntmps88
    go_wp2_with (first | (go_at_call 155; refine (isNumber_any _ _).mono ?_; rintro e w1 ⟨rfl, rfl⟩) | go_in)
    go_ret2
    exact ⟨rfl, (((Below.refl _ _).alloc (Nat.le_refl _) _).alloc (by simp) _)⟩

theorem shares_any (w : World) : Calls Try.prog 17 #[] w fun e w' => e = .returned (.bool true) ∧ Below w.heap.size w w' := by
  go_enter Try.func17, Try.ntmps17
  go_wp2_with (first | (go_at_call 88; refine (times_yes _ _ _ (by decide) (by decide)).mono ?_; rintro e w1 ⟨rfl, hb⟩))
  go_ret
  exact ⟨rfl, hb⟩
end Go.Proofs.Ytbljihhelladbaa.sh
