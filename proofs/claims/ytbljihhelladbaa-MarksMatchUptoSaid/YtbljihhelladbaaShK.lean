/-
  Contracts of keyref2.OverOf and At. Conditions: numbers from 0 to 256; as many places as values.
-/
import Derived.Test.YtbljihhelladbaaShBC
namespace Go.Proofs.Ytbljihhelladbaa.sh
set_option linter.unusedVariables false
open Go.RowKit Go.Proofs.Ytbljihhelladbaa.Fld
set_option linter.unusedSimpArgs false
set_option pp.maxSteps 6000

theorem overOf_hit (a b : Int) (k : Nat) (hk : k < 257) (h0 : ∀ j, j < k → hit a b j = false) (h : hit a b k = true) : overOf a b = (k : Int) := by
  unfold overOf
  have hf : (List.range 257).find? (hit a b) = some k := by
    rw [List.find?_eq_some_iff_getElem]
    exact ⟨h, k, by simpa using hk, by simp, fun j hj => by simp [h0 j hj]⟩
  rw [hf]
theorem overOf_miss (a b : Int) (h0 : ∀ j, j < 257 → hit a b j = false) : overOf a b = 0 := by
  unfold overOf
  have hf : (List.range 257).find? (hit a b) = none := by
    rw [List.find?_eq_none]
    intro j hj
    simp [h0 j (by simpa using hj)]
  rw [hf]

theorem mod_n (n : Int) (w : World) : Calls Try.prog 93 #[.int .i64 n] w fun e w' => e = .returned (.int .i64 (n % 257)) ∧ w' = w :=
  (mod_any n w).mono fun _ _ ⟨h1, h2⟩ => ⟨h1, h2.symm⟩

theorem mul_bds {a d : Int} (ha : 0 ≤ a ∧ a ≤ 256) (hd : -256 ≤ d ∧ d ≤ 256) : -65536 ≤ a * d ∧ a * d ≤ 65536 := by
  constructor
  · have := Int.mul_le_mul_of_nonneg_left hd.1 ha.1
    have := Int.mul_le_mul_of_nonneg_right ha.2 (show (0 : Int) ≤ 256 by omega)
    omega
  · have := Int.mul_le_mul_of_nonneg_left hd.2 ha.1
    have := Int.mul_le_mul_of_nonneg_right ha.2 (show (0 : Int) ≤ 256 by omega)
    omega

set_option maxRecDepth 100000 in
theorem OverOf_any (a b : Int) (w : World) (hb : 0 ≤ b ∧ b ≤ 256) :
    Calls Try.prog 157 #[.int .i64 a, .int .i64 b] w fun e w' => e = .returned (.int .i64 (overOf a b)) ∧ w = w' := by
  go_enter Try.func157, Try.ntmps157
  go_wp2
  go_loop [6] (fun i => ∃ k : Nat, k ≤ 257 ∧ i = .int .i64 k ∧ Hid (∀ j, j < k → hit a b j = false)) (fun i => 257 - (intOf i).toNat)
  case atStart => exact ⟨0, by omega, rfl, fun j hj => absurd hj (Nat.not_lt_zero j)⟩
  case round =>
    obtain ⟨k, hk, rfl, HA⟩ := hrel
    by_cases h0 : k < 257
    · have hm := mul_bds (a := (k : Int)) (d := b) ⟨by omega, by omega⟩ ⟨by omega, by omega⟩
      by_cases h1 : (k : Int) * b % 257 = a
      · have H1 := hid h1
        have h1' : ((k : Int) * b % 257 == a) = true := by simp [h1]
        clear h1
        go_wp2_with (first | (go_at_call 93; refine (mod_any _ _).mono ?_; rintro e w1 ⟨rfl, rfl⟩))
        go_ret
        exact ⟨rv (ri (overOf_hit a b k h0 HA.out (by unfold hit; simp [H1.out])).symm), rfl⟩
      · have H1 := hid h1
        have h1' : ((k : Int) * b % 257 == a) = false := by simp [h1]
        clear h1
        go_wp2_with (first | (go_at_call 93; refine (mod_any _ _).mono ?_; rintro e w1 ⟨rfl, rfl⟩))
        go_round
        case rel => exact ⟨k + 1, by omega, by go_num, fun j hj => by
          by_cases e : j = k
          · rw [e]; unfold hit; simp [H1.out]
          · exact HA.out j (by omega)⟩
        case measure => simp [intOf] <;> omega
    · obtain rfl : k = 257 := by omega
      go_wp2
      go_ret
      exact ⟨rv (ri (overOf_miss a b HA.out).symm), rfl⟩

theorem upTo_rng (xs : List Int) (i : Nat) (t u : Int) (hu : 0 ≤ u ∧ u ≤ 256) (n : Nat) : 0 ≤ upTo xs i t u n ∧ upTo xs i t u n ≤ 256 := by
  induction n with
  | zero => exact hu
  | succ n ih =>
    unfold upTo
    split
    · exact ih
    · exact mod_range _

set_option maxRecDepth 100000 in
theorem At_quiet (ax ay : Option Addr) (cx cy n : Nat) (xs ys : List Int) (t : Int) (w : World) (hn : n = xs.length) (hx : RowI .i64 w ax xs) (hy : RowI .i64 w ay ys) (hl : ys.length = xs.length) (rx : Rng xs) (ry : Rng ys) (ht : 0 ≤ t ∧ t ≤ 256) (hs : xs.length ≤ 4611686018427387904) :
    Calls Try.prog 106 #[.slice ax n cx, .slice ay n cy, .int .i64 t] w fun e w' => e = .returned (.int .i64 (atR xs ys t)) ∧ ∃ m, w' = w.drewN m := by
  subst hn
  have HL := hid hl; clear hl
  go_enter Try.func106, Try.ntmps106
  go_wp2
  go_loopw [7, 14] (fun s i wr => ∃ (k : Nat) (a : Int), k ≤ xs.length ∧ i = .int .i64 k ∧ s = .int .i64 a ∧ Hid (a = atTo xs ys xs.length t k) ∧ Hid (∃ d, wr = w.drewN d)) (fun _ i _ => xs.length - (intOf i).toNat)
  case atStart => exact ⟨0, 0, Nat.zero_le _, rfl, rfl, by simp [Hid, atTo], ⟨0, rfl⟩⟩
  case round =>
    obtain ⟨k, a, hk, rfl, rfl, HA, HD⟩ := hrel
    have hb : Below w.heap.size w wr := by obtain ⟨d, h⟩ := HD.out; rw [h]; exact bdN (Below.refl _ _) d
    by_cases h0 : k < xs.length
    · obtain ⟨bx, ox, xk, rfl, hbx, HX, cx0⟩ := hx.elem (i := k) h0
      obtain ⟨by_, oy, y, rfl, hby, HY, cy0⟩ := hy.elem (i := k) (by rw [HL.out]; exact h0)
      have cy1 := (hb.cell (p := ⟨by_, oy + k, none⟩) hby).trans cy0
      have ryk : 0 ≤ y ∧ y ≤ 256 := by rw [HY.out]; exact ry.getD k
      have rxk : 0 ≤ xk ∧ xk ≤ 256 := by rw [HX.out]; exact rx.getD k
      have hkl : (k : Int) < (xs.length : Int) := by omega
      have hkd : decide ((k : Int) < (xs.length : Int)) = true := by simp; omega
      have ra : 0 ≤ a ∧ a ≤ 256 := by rw [HA.out]; exact atTo_range ..
      have hz := hx.at (i := k) h0
      clear cy0
      go_wp2
      go_loopw [9, 10, 23] (fun u d j wi => ∃ (m : Nat) (p q : Int), m ≤ xs.length ∧ j = .int .i64 m ∧ u = .int .i64 p ∧ d = .int .i64 q ∧ Hid (p = upTo xs k t y m) ∧ Hid (q = upTo xs k xk 1 m) ∧ Hid (∃ d, wi = w.drewN d)) (fun _ _ j _ => xs.length - (intOf j).toNat)
      case atStart => exact ⟨0, y, 1, Nat.zero_le _, rfl, rfl, rfl, by simp [Hid, upTo], by simp [Hid, upTo], HD⟩
      case round =>
        obtain ⟨m, p, q, hm, rfl, rfl, rfl, HP, HQ, HDi⟩ := hrel
        have hbi : Below w.heap.size w wr := by obtain ⟨d, h⟩ := HDi.out; rw [h]; exact bdN (Below.refl _ _) d
        have rp : 0 ≤ p ∧ p ≤ 256 := by rw [HP.out]; exact upTo_rng xs k t y ryk m
        have rq : 0 ≤ q ∧ q ≤ 256 := by rw [HQ.out]; exact upTo_rng xs k xk 1 (by omega) m
        by_cases h1 : m < xs.length
        · obtain ⟨b2, o2, xm, e2, hb2, HXM, cm0⟩ := hx.elem (i := m) h1
          obtain ⟨rfl, rfl⟩ : bx = b2 ∧ ox = o2 := by simpa using e2
          have cm := (hbi.cell (p := ⟨bx, ox + m, none⟩) hbx).trans cm0
          have ck := (hbi.cell (p := ⟨bx, ox + k, none⟩) hbx).trans cx0
          have rxm : 0 ≤ xm ∧ xm ≤ 256 := by rw [HXM.out]; exact rx.getD m
          have m1 := mul_bds (a := p) (d := t - xm) rp (by omega)
          have m2 := mul_bds (a := q) (d := xk - xm) rq (by omega)
          by_cases h2 : m = k
          · have H2 := hid h2
            have h2' : ((m : Int) != (k : Int)) = false := by simp [h2]
            have hP : Hid (p = upTo xs k t y (m + 1)) := by show _ = _; unfold upTo; rw [if_pos H2.out]; exact HP.out
            have hQ : Hid (q = upTo xs k xk 1 (m + 1)) := by show _ = _; unfold upTo; rw [if_pos H2.out]; exact HQ.out
            clear h2 cm0 e2
            go_wp2
            go_roundw
            case rel => exact ⟨m + 1, p, q, by omega, by go_num, rfl, rfl, hP, hQ, HDi⟩
            case measure => simp [intOf] <;> omega
          · have H2 := hid h2
            have h2' : ((m : Int) != (k : Int)) = true := by simp; omega
            have hP : Hid (p * (t - xm) % 257 = upTo xs k t y (m + 1)) := by show _ = _; rw [show upTo xs k t y (m + 1) = (if m = k then upTo xs k t y m else upTo xs k t y m * (t - xs.getD m 0) % 257) from rfl, if_neg H2.out, ← HP.out, ← HXM.out]
            have hQ : Hid (q * (xk - xm) % 257 = upTo xs k xk 1 (m + 1)) := by show _ = _; rw [show upTo xs k xk 1 (m + 1) = (if m = k then upTo xs k xk 1 m else upTo xs k xk 1 m * (xk - xs.getD m 0) % 257) from rfl, if_neg H2.out, ← HQ.out, ← HXM.out]
            clear h2 cm0 e2
            go_wp2_with (first | (go_at_call 93; refine (mod_any _ _).mono ?_; rintro e w1 ⟨rfl, rfl⟩))
            go_quiet ((go_at_call 93; exact Calls.quiet_of_same (mod_n _ _)))
            go_wp2
            go_roundw
            case rel => exact ⟨m + 1, _, _, by omega, by go_num, rfl, rfl, hP, hQ, hid (by obtain ⟨d, h⟩ := HDi.out; exact ⟨d + nq, by rw [h, World.drewN_drewN]⟩)⟩
            case measure => simp [intOf] <;> omega
        · obtain rfl : m = xs.length := by omega
          have ho := overOf_range (p % 257) q
          have hT : Hid ((a + overOf (p % 257) q) % 257 = atTo xs ys xs.length t (k + 1)) := by
            show _ = _
            rw [show atTo xs ys xs.length t (k + 1) = (atTo xs ys xs.length t k + termAt xs ys xs.length t k) % 257 from rfl, ← HA.out]
            unfold termAt
            rw [← HX.out, ← HY.out, ← HP.out, ← HQ.out]
          go_wp2_with (first | (go_at_call 93; refine (mod_any _ _).mono ?_; rintro e w1 ⟨rfl, rfl⟩) | (go_at_call 157; refine (OverOf_any _ _ _ rq).mono ?_; rintro e w1 ⟨rfl, rfl⟩))
          go_roundw
          case rel => exact ⟨k + 1, _, by omega, by go_num, rfl, hT, HDi⟩
          case measure => simp [intOf] <;> omega
    · obtain rfl : k = xs.length := by omega
      go_wp2
      go_ret
      exact ⟨rv (ri HA.out), HD.out⟩
theorem At_any (ax ay : Option Addr) (cx cy n : Nat) (xs ys : List Int) (t : Int) (w : World) (hn : n = xs.length) (hx : RowI .i64 w ax xs) (hy : RowI .i64 w ay ys) (hl : ys.length = xs.length) (rx : Rng xs) (ry : Rng ys) (ht : 0 ≤ t ∧ t ≤ 256) (hs : xs.length ≤ 4611686018427387904) :
    Calls Try.prog 106 #[.slice ax n cx, .slice ay n cy, .int .i64 t] w fun e w' => e = .returned (.int .i64 (atR xs ys t)) ∧ Below w.heap.size w w' :=
  (At_quiet ax ay cx cy n xs ys t w hn hx hy hl rx ry ht hs).mono fun e w' ⟨h1, m, h2⟩ => ⟨h1, by rw [h2]; exact bdN (Below.refl _ _) m⟩
/-- At, in a region of which nothing but the draws turns the world -/
theorem At_q (ax ay : Option Addr) (cx cy n : Nat) (xs ys : List Int) (t V : Int) (w : World) (nq : Nat) (hn : n = xs.length) (hx : RowI .i64 w ax xs) (hy : RowI .i64 w ay ys) (hl : ys.length = xs.length) (rx : Rng xs) (ry : Rng ys) (ht : 0 ≤ t ∧ t ≤ 256) (hs : xs.length ≤ 4611686018427387904) (hV : atR xs ys t = V) :
    Calls Try.prog 106 #[.slice ax n cx, .slice ay n cy, .int .i64 t] (w.drewN nq) fun e w' => e = .returned (.int .i64 V) ∧ ∃ m, w' = w.drewN m := by
  subst hV
  exact Calls.quiet_of (At_quiet ax ay cx cy n xs ys t (w.drewN nq) hn (hx.drewN nq) (hy.drewN nq) hl rx ry ht hs)
end Go.Proofs.Ytbljihhelladbaa.sh
