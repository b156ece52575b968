/-
  Contracts of value, ValueOf, rangeFault, First, When, mod and through. Conditions: numbers from 0 to 256.
-/
import Derived.Test.YtbljihhelladbaaMem
import Derived.Test.YtbljihhelladbaaShA
import Derived.Deep.OwnRows
/- Contracts of share.value, rangeFault, Value; keyref2.When, First, mod, ValueOf. Conditions: the ranges that are named. -/
namespace Go.Proofs.Ytbljihhelladbaa.sh
open Go.RowKit Go.Proofs.Ytbljihhelladbaa.Fld

theorem ev_step (l : List Int) (x : Int) (k : Nat) (hk : k < l.length) : (ev (l.drop (k + 1)) x % 257 * x + l.getD k 0) % 257 = ev (l.drop k) x % 257 := by
  have e : l.drop k = l[k] :: l.drop (k + 1) := List.drop_eq_getElem_cons hk
  rw [e, getD_lt l 0 hk]
  have h : Cg (ev (l.drop (k + 1)) x % 257 * x) (x * ev (l.drop (k + 1)) x) := (Cg.mul_right x (Cg.mod _)).trans (Cg.of_eq (Int.mul_comm _ _))
  show (_ + _) % 257 = (l[k] + x * ev (l.drop (k + 1)) x) % 257
  unfold Cg at h
  omega

theorem value_any (ao : Option Addr) (cap : Nat) (l : List Int) (x : Int) (w : World) (hr : RowI .i64 w ao l) (hl : Rng l) (hx : 0 ≤ x ∧ x ≤ 256) (hn : l.length ≤ 4611686018427387904) :
    Calls Try.prog 92 #[.slice ao l.length cap, .int .i64 x] w fun e w' => e = .returned (.int .i64 (ev l x % 257)) ∧ w = w' := by
  go_enter Try.func92, Try.ntmps92
  go_wp2
  go_loop [5, 6] (fun v i => ∃ k : Nat, k ≤ l.length ∧ i = .int .i64 ((k : Int) - 1) ∧ v = .int .i64 (ev (l.drop k) x % 257)) (fun _ i => (intOf i + 1).toNat)
  case atStart => exact ⟨l.length, Nat.le_refl _, rfl, by simp [ev]⟩
  case round =>
    obtain ⟨k, hk, rfl, rfl⟩ := hrel
    by_cases h0 : 0 < k
    · obtain ⟨k, rfl⟩ : ∃ j, k = j + 1 := ⟨k - 1, by omega⟩
      obtain ⟨b, off, c, rfl, hb, HC, hcell⟩ := hr.elem (i := k) (by omega)
      have hm := mul_bd (mod_range (ev (l.drop (k + 1)) x)) hx
      have hg := hl.getD k
      rw [← HC.out] at hg
      have HS := ev_step l x k (by omega)
      rw [← HC.out] at HS
      replace HS := hid HS
      go_wp2
      go_round
      case rel => exact ⟨k, by omega, by go_num, by rw [HS.out]⟩
      case measure => simp [intOf] <;> omega
    · go_wp2
      go_ret
      exact ⟨rv (ri (by rw [show k = 0 by omega]; rfl)), rfl⟩

/-- all from 0 to 256 -/
def allN (l : List Int) : Bool := l.all isN
theorem allN_rng {l : List Int} : allN l = true ↔ Rng l := by
  unfold allN Rng
  rw [List.all_eq_true]
  exact ⟨fun h c hc => (isN_iff c).1 (h c hc), fun h c hc => (isN_iff c).2 (h c hc)⟩
theorem allN_take_succ (l : List Int) (k : Nat) (hk : k < l.length) : allN (l.take (k + 1)) = (allN (l.take k) && isN (l.getD k 0)) := by
  unfold allN
  rw [List.take_succ_eq_append_getElem hk, List.all_append, getD_lt l 0 hk]
  simp
def rfE (l : List Int) : Int := if allN l then 0 else 4
theorem rfE_bad (l : List Int) (k : Nat) (hk : k < l.length) (h : isN (l.getD k 0) = false) : rfE l = 4 := by
  unfold rfE
  rw [if_neg]
  unfold allN
  rw [List.all_eq_true]
  intro ha
  have := ha (l.getD k 0) (by rw [getD_lt l 0 hk]; exact List.getElem_mem hk)
  rw [h] at this
  cases this

theorem rangeFault_any (ao : Option Addr) (cap : Nat) (l : List Int) (w : World) (hr : RowI .i64 w ao l) (hn : l.length ≤ 4611686018427387904) :
    Calls Try.prog 91 #[.slice ao l.length cap] w fun e w' => e = .returned (.int .i64 (rfE l)) ∧ w = w' := by
  go_enter Try.func91, Try.ntmps91
  go_wp2
  go_loop [4, 7] (fun _ i => ∃ k : Nat, k ≤ l.length ∧ i = .int .i64 k ∧ allN (l.take k) = true) (fun _ i => l.length - (intOf i).toNat)
  case atStart => exact ⟨0, Nat.zero_le _, rfl, rfl⟩
  case round =>
    obtain ⟨k, hk, rfl, ha⟩ := hrel
    have HA := hid ha; clear ha
    by_cases h0 : k < l.length
    · obtain ⟨b, off, c, rfl, hb, HC, hcell⟩ := hr.elem (i := k) h0
      cases hc : isN c
      · have HN := hid hc
        go_wp2_with (first | (go_at_call 155; refine (isNumber_any _ _).mono ?_; rintro e w1 ⟨rfl, rfl⟩))
        go_ret
        exact ⟨rv (ri (by rw [rfE_bad l k h0 (by rw [← HC.out]; exact HN.out)])), rfl⟩
      · have HN := hid hc
        go_wp2_with (first | (go_at_call 155; refine (isNumber_any _ _).mono ?_; rintro e w1 ⟨rfl, rfl⟩))
        go_round
        case rel => exact ⟨k + 1, by omega, by go_num, by rw [allN_take_succ l k h0, HA.out, ← HC.out, HN.out]; rfl⟩
        case measure => simp [intOf] <;> omega
    · go_wp2
      go_ret
      exact ⟨rv (ri (by unfold rfE; rw [if_pos]; have := HA.out; rwa [List.take_of_length_le (by omega)] at this)), rfl⟩

theorem rangeFault_one (x : Int) (w : World) :
    Calls Try.prog 91 #[.slice (some ⟨w.heap.size, 0, none⟩) 1 1] (w.alloc (.cells #[.int .i64 x] 3)) fun e w' => e = .returned (.int .i64 (if isN x then 0 else 4)) ∧ w.alloc (.cells #[.int .i64 x] 3) = w' := by
  have h : RowI .i64 (w.alloc (.cells #[.int .i64 x] 3)) (some ⟨w.heap.size, 0, none⟩) [x] := by
    refine Or.inr ⟨_, _, rfl, by simp, fun i hi => ?_⟩
    have : i = 0 := by simpa using hi
    subst this
    rw [World.cell?_alloc_at _ _ _ _ (by simp)]
    rfl
  refine (rangeFault_any _ 1 [x] _ h (by simp)).mono fun e w' ⟨h1, h2⟩ => ⟨?_, h2⟩
  rw [h1]
  simp [rfE, allN]

/-- an error, if it is so -/
def whenE (b : Bool) (n : Int) : Int := if b then n else 0
theorem whenE_true (n : Int) : whenE true n = n := rfl
theorem whenE_false (n : Int) : whenE false n = 0 := rfl
/-- the first of two errors -/
def firstE2 (x y : Int) : Int := if x = 0 then y else x
theorem firstE2_zero (y : Int) : firstE2 0 y = y := rfl
theorem firstE2_ne {x : Int} (y : Int) (h : x ≠ 0) : firstE2 x y = x := if_neg h

theorem When_any (b : Bool) (n : Int) (w : World) : Calls Try.prog 21 #[.bool b, .int .i64 n] w fun e w' => e = .returned (.int .i64 (whenE b n)) ∧ w = w' := by
  cases b
  · go_enter Try.func21, Try.ntmps21
    go_wp2
    go_ret
    exact ⟨rfl, rfl⟩
  · go_enter Try.func21, Try.ntmps21
    go_wp2
    go_ret
    exact ⟨rfl, rfl⟩

/-- the first number that is not 0 -/
def firstE : List Int → Int
  | [] => 0
  | n :: l => if n = 0 then firstE l else n

theorem firstE_drop (l : List Int) (k : Nat) (hk : k < l.length) : firstE (l.drop k) = if l.getD k 0 = 0 then firstE (l.drop (k + 1)) else l.getD k 0 := by
  have e : l.drop k = l[k] :: l.drop (k + 1) := List.drop_eq_getElem_cons hk
  rw [e, getD_lt l 0 hk]
  rfl

theorem First_any (ao : Option Addr) (cap : Nat) (l : List Int) (w : World) (hr : RowI .i64 w ao l) (hn : l.length ≤ 4611686018427387904) :
    Calls Try.prog 23 #[.slice ao l.length cap] w fun e w' => e = .returned (.int .i64 (firstE l)) ∧ w = w' := by
  go_enter Try.func23, Try.ntmps23
  go_wp2
  go_loop [4, 7] (fun _ i => ∃ k : Nat, k ≤ l.length ∧ i = .int .i64 k ∧ firstE (l.drop k) = firstE l) (fun _ i => l.length - (intOf i).toNat)
  case atStart => exact ⟨0, Nat.zero_le _, rfl, rfl⟩
  case round =>
    obtain ⟨k, hk, rfl, ha⟩ := hrel
    have HA := hid ha; clear ha
    by_cases h0 : k < l.length
    · obtain ⟨b, off, c, rfl, hb, HC, hcell⟩ := hr.elem (i := k) h0
      have HD := firstE_drop l k h0
      rw [← HC.out, HA.out] at HD
      replace HD := hid HD
      by_cases hc : c = 0
      · have HZ := hid hc
        have hc' : (c != 0) = false := by simp [hc]
        clear hc
        go_wp2
        go_round
        case rel => exact ⟨k + 1, by omega, by go_num, by rw [HD.out, if_pos HZ.out]⟩
        case measure => simp [intOf] <;> omega
      · have hc' : (c != 0) = true := by simp [hc]
        have HZ := hid hc
        clear hc
        go_wp2
        go_ret
        exact ⟨rv (ri (by rw [HD.out, if_neg HZ.out])), rfl⟩
    · go_wp2
      go_ret
      exact ⟨rv (ri (by rw [← HA.out, List.drop_eq_nil_of_le (by omega)]; rfl)), rfl⟩

theorem First_two (x y : Int) (w w0 : World) (hw : w0 = w.alloc (.cells #[.int .i64 x, .int .i64 y] 27)) :
    Calls Try.prog 23 #[.slice (some ⟨w.heap.size, 0, none⟩) 2 2] w0 fun e w' => e = .returned (.int .i64 (firstE2 x y)) ∧ w0 = w' := by
  subst hw
  unfold firstE2
  have h : RowI .i64 (w.alloc (.cells #[.int .i64 x, .int .i64 y] 27)) (some ⟨w.heap.size, 0, none⟩) [x, y] := by
    refine Or.inr ⟨_, _, rfl, by simp, fun i hi => ?_⟩
    rw [World.cell?_alloc_at _ _ _ _ (by simp)]
    match i, hi with
    | 0, _ => rfl
    | 1, _ => rfl
  refine (First_any _ 2 [x, y] _ h (by simp)).mono fun e w' ⟨h1, h2⟩ => ⟨?_, h2⟩
  rw [h1]
  simp only [firstE]
  by_cases hx : x = 0
  · rw [if_pos hx, if_pos hx]
    by_cases hy : y = 0
    · rw [if_pos hy, hy]
    · rw [if_neg hy]
  · rw [if_neg hx, if_neg hx]

theorem tmod_mod' (n : Int) : (n.tmod 257 + 257) % 257 = n % 257 := by
  by_cases h0 : 0 ≤ n
  · rw [Int.tmod_eq_emod_of_nonneg h0]; omega
  · have h1 : n.tmod 257 = -((-n) % 257) := by
      have : n = -(-n) := by omega
      rw [this, Int.neg_tmod, Int.tmod_eq_emod_of_nonneg (by omega)]
      simp
    rw [h1]; omega
theorem tmod_bd (n : Int) : -256 ≤ n.tmod 257 ∧ n.tmod 257 ≤ 256 := by
  by_cases h : 0 ≤ n
  · rw [Int.tmod_eq_emod_of_nonneg h]; omega
  · have h1 : n.tmod 257 = -((-n) % 257) := by
      have : n = -(-n) := by omega
      rw [this, Int.neg_tmod, Int.tmod_eq_emod_of_nonneg (by omega)]
      simp
    omega

theorem mod_any (n : Int) (w : World) : Calls Try.prog 93 #[.int .i64 n] w fun e w' => e = .returned (.int .i64 (n % 257)) ∧ w = w' := by
  have H := hid (tmod_mod' n)
  have hb := tmod_bd n
  by_cases h : 0 ≤ n
  · go_enter Try.func93, Try.ntmps93
    go_wp2
    go_ret
    exact ⟨rv (ri (by omega)), rfl⟩
  · go_enter Try.func93, Try.ntmps93
    go_wp2
    go_ret
    exact ⟨rv (ri (by have := H.out; omega)), rfl⟩

/-- the powers and the sum of the first k terms -/
theorem ev_take_succ (l : List Int) (x : Int) (k : Nat) (hk : k < l.length) : ev (l.take (k + 1)) x = ev (l.take k) x + x ^ k * l.getD k 0 := by
  rw [List.take_succ_eq_append_getElem hk, ev_append, getD_lt l 0 hk, List.length_take, Nat.min_eq_left (by omega)]
  simp [ev]
theorem vo_sum (l : List Int) (x : Int) (k : Nat) (hk : k < l.length) : (ev (l.take k) x % 257 + l.getD k 0 * (x ^ k % 257)) % 257 = ev (l.take (k + 1)) x % 257 := by
  rw [ev_take_succ l x k hk]
  have h : Cg (l.getD k 0 * (x ^ k % 257)) (x ^ k * l.getD k 0) := (Cg.mul_left _ (Cg.mod _)).trans (Cg.of_eq (Int.mul_comm _ _))
  unfold Cg at h
  omega
theorem vo_pow (x : Int) (k : Nat) : (x ^ k % 257 * x) % 257 = x ^ (k + 1) % 257 := by
  rw [Int.pow_succ]
  exact Cg.mul_right x (Cg.mod _)

theorem ValueOf_any (ao : Option Addr) (cap : Nat) (l : List Int) (x : Int) (w : World) (hr : RowI .i64 w ao l) (hl : Rng l) (hx : 0 ≤ x ∧ x ≤ 256) (hn : l.length ≤ 4611686018427387904) :
    Calls Try.prog 24 #[.slice ao l.length cap, .int .i64 x] w fun e w' => e = .returned (.int .i64 (ev l x % 257)) ∧ w = w' := by
  go_enter Try.func24, Try.ntmps24
  go_wp2
  go_loop [5, 6, 8, 11] (fun s p _ i => ∃ (k : Nat) (a q : Int), k ≤ l.length ∧ i = .int .i64 k ∧ s = .int .i64 a ∧ p = .int .i64 q ∧ Hid (a = ev (l.take k) x % 257) ∧ Hid (q = x ^ k % 257)) (fun _ _ _ i => l.length - (intOf i).toNat)
  case atStart => exact ⟨0, 0, 1, Nat.zero_le _, rfl, rfl, rfl, by simp [Hid, ev], by simp [Hid]⟩
  case round =>
    obtain ⟨k, a, q, hk, rfl, rfl, rfl, HA, HQ⟩ := hrel
    by_cases h0 : k < l.length
    · obtain ⟨b, off, c, rfl, hb, HC, hcell⟩ := hr.elem (i := k) h0
      have hc : 0 ≤ c ∧ c ≤ 256 := by rw [HC.out]; exact hl.getD k
      have ha : 0 ≤ a ∧ a ≤ 256 := by rw [HA.out]; exact mod_range _
      have hq : 0 ≤ q ∧ q ≤ 256 := by rw [HQ.out]; exact mod_range _
      have hcq := mul_bd hc hq
      have hqx := mul_bd hq hx
      go_wp2_with (first | (go_at_call 93; refine (mod_any _ _).mono ?_; rintro e w1 ⟨rfl, rfl⟩))
      go_round
      case rel => exact ⟨k + 1, _, _, by omega, by go_num, rfl, rfl, by rw [HA.out, HQ.out, HC.out]; exact vo_sum l x k h0, by rw [HQ.out]; exact vo_pow x k⟩
      case measure => simp [intOf] <;> omega
    · go_wp2
      go_ret
      exact ⟨rv (ri (by rw [HA.out, List.take_of_length_le (by omega)])), rfl⟩
end Go.Proofs.Ytbljihhelladbaa.sh

/- Contract of share.through: the polynomial that Newton's steps give, in new memory. Conditions: as many places as values, 64 at most, all from 0 to 256, the places different. -/
namespace Go.Proofs.Ytbljihhelladbaa.sh
open Go.RowKit Go.Proofs.Ytbljihhelladbaa.Fld

theorem value_n {n : Nat} (ao : Option Addr) (cap : Nat) (l : List Int) (x : Int) (w : World) (hn : n = l.length) (hr : RowI .i64 w ao l) (hl : Rng l) (hx : 0 ≤ x ∧ x ≤ 256) (hs : n ≤ 4611686018427387904) :
    Calls Try.prog 92 #[.slice ao n cap, .int .i64 x] w fun e w' => e = .returned (.int .i64 (ev l x % 257)) ∧ w' = w := by
  subst hn
  exact (value_any ao cap l x w hr hl hx hs).mono fun _ _ ⟨h1, h2⟩ => ⟨h1, h2.symm⟩

theorem infoInt : (Try.prog.info? 3).map (fun i => (i.zero, i.size, i.bytes)) = some (some (.int .i64 0), 1, 8) := by kernel_rfl

set_option maxRecDepth 100000 in
set_option maxHeartbeats 2000000 in
theorem through_any (ax ay : Option Addr) (cx cy : Nat) (xs ys : List Int) (w : World) (hx : RowI .i64 w ax xs) (hy : RowI .i64 w ay ys) (hl : ys.length = xs.length) (rx : Rng xs) (ry : Rng ys) (hap : ApartTo xs xs.length) (hn : xs.length ≤ 64) :
    Calls Try.prog 94 #[.slice ax xs.length cx, .slice ay xs.length cy] w fun e w' => e = .returned (.slice (some ⟨w.heap.size, 0, none⟩) xs.length xs.length) ∧ BlkI .i64 3 w' w.heap.size (through xs ys) ∧ Below w.heap.size w w' := by
  have hmk := run_make_row' (P := Try.prog) 26 3 (.int .i64 0) 8 Try.underlying26 infoInt rfl .i64 .i64 xs.length (by omega) (by omega)
  have HL := hid hl; clear hl
  go_enter Try.func94, Try.ntmps94
  go_wp2
  go_loopw [6, 19] (fun gr i wr => ∃ k gg : Nat, k ≤ xs.length ∧ i = .int .i64 k ∧ gr = .slice (some ⟨gg, 0, none⟩) (k + 1) (k + 1) ∧ w.heap.size < gg ∧
      BlkI .i64 3 wr w.heap.size (thr xs ys k).1 ∧ BlkI .i64 3 wr gg (thr xs ys k).2 ∧ Below w.heap.size w wr) (fun _ i _ => xs.length - (intOf i).toNat)
  case atStart => exact ⟨0, w.heap.size + 1, Nat.zero_le _, rfl, rfl, by omega, (BlkI.made .i64 _ w _).alloc _, BlkI.new' .i64 _ _ [1] (by simp), ((Below.refl _ _).alloc (Nat.le_refl _) _).alloc (by simp) _⟩
  case round =>
    obtain ⟨k, gg, hk, rfl, rfl, hgg, hO, hG, hb⟩ := hrel
    by_cases h0 : k < xs.length
    · obtain ⟨f1, f2, f3, f4, f5, f6⟩ := thr_facts xs ys hap k hk
      obtain ⟨bx, ox, x, rfl, hbx, HX, cx0⟩ := hx.elem (i := k) h0
      obtain ⟨by_, oy, y, rfl, hby, HY, cy0⟩ := hy.elem (i := k) (by rw [HL.out]; exact h0)
      have cx1 := (hb.cell (p := ⟨bx, ox + k, none⟩) hbx).trans cx0
      have cy1 := (hb.cell (p := ⟨by_, oy + k, none⟩) hby).trans cy0
      have bxx : 0 ≤ x ∧ x ≤ 256 := by rw [HX.out]; exact rx.getD k
      have byy : 0 ≤ y ∧ y ≤ 256 := by rw [HY.out]; exact ry.getD k
      have F1 := hid f1
      have F2 := hid f2
      clear f1 f2 f5 f6 cy0
      have hmk2 := run_make_row' (P := Try.prog) 26 3 (.int .i64 0) 8 Try.underlying26 infoInt rfl .i64 .i64 (k + 2) (by omega) (by omega)
      have e2 : ((k + 2 : Nat) : Int) = (k : Int) + 1 + 1 := by omega
      rw [e2] at hmk2
      clear e2
      have hkz : (k : Int) < (xs.length : Int) := by omega
      have he1 := mod_range (ev (thr xs ys k).1 x)
      have he2 := mod_range (ev (thr xs ys k).2 x)
      go_wp2_with fail
      go_quiet ((go_at_call 92; exact Calls.quiet_of_same (value_n _ _ _ _ _ F1.out.symm (hO.row.drewN _) f3 bxx (by omega))))
      go_wp2_with fail
      refine (value_n _ _ _ _ _ F2.out.symm (hG.row.drewN _) f4 bxx (by omega)).mono ?_
      rintro e w1 ⟨rfl, rfl⟩
      go_wp2_with fail
      refine (over_any _ _ _ (by omega) (by omega)).mono ?_
      rintro e w1 ⟨rfl, rfl⟩
      have hf := overP_range ((y - ev (thr xs ys k).1 x) % 257) (ev (thr xs ys k).2 x % 257)
      obtain ⟨f, HF⟩ : ∃ f, Hid (f = overP ((y - ev (thr xs ys k).1 x) % 257) (ev (thr xs ys k).2 x % 257)) := ⟨_, rfl⟩
      rw [← HF.out] at hf ⊢
      go_wp2_with fail
      have hOn := (hO.drewN nq).alloc (.cells (madeCells #[.int .i64 0] (k + 2)) 3)
      have hGn := (hG.drewN nq).alloc (.cells (madeCells #[.int .i64 0] (k + 2)) 3)
      have HT : Hid (thr xs ys (k + 1) = (inO f (thr xs ys k).2 (thr xs ys k).1 (k + 1), inN x (thr xs ys k).2 (k + 1))) := by
        rw [HF.out, HX.out, HY.out]
        show thr xs ys (k + 1) = _
        simp only [thr]
        rw [F2.out]
      clear HF HY cy1 byy
      have hbn := (bdN hb nq).alloc (Nat.le_of_lt (by have := hO.lt; simpa using this)) (.cells (madeCells #[.int .i64 0] (k + 2)) 3)
      have hNn := BlkI.made' .i64 3 (wr.drewN nq) (g := wr.heap.size) (k + 2) rfl
      have hBg := hG.lt
      generalize (thr xs ys k).1 = o at *
      generalize (thr xs ys k).2 = g at *
      generalize hGN : wr.heap.size = GN at *
      clear hGN hO hG hb hx hy hmk hmk2
      go_loopw [49] (fun i wi => ∃ m : Nat, m ≤ k + 1 ∧ i = .int .i64 m ∧ BlkI .i64 3 wi w.heap.size (inO f g o m) ∧ BlkI .i64 3 wi gg g ∧ BlkI .i64 3 wi GN (inN x g m) ∧ Below w.heap.size w wi) (fun i _ => k + 1 - (intOf i).toNat)
      case atStart => exact ⟨0, by omega, rfl, hOn, hGn, by unfold inN; rw [F2.out]; exact hNn, hbn⟩
      case round =>
        obtain ⟨m, hm, rfl, hOi, hGi, hNi, hbi⟩ := hrel
        by_cases h1 : m < k + 1
        · obtain ⟨c1, HC1, cO⟩ := hOi.elem (i := m) (by rw [inO_length, F1.out]; omega)
          obtain ⟨c2, HC2, cG⟩ := hGi.elem (i := m) (by rw [F2.out]; omega)
          obtain ⟨c3, HC3, cN1⟩ := hNi.elem (i := m + 1) (by rw [inN_length, F2.out]; omega)
          obtain ⟨c4, HC4, cN0⟩ := hNi.elem (i := m) (by rw [inN_length, F2.out]; omega)
          have zO := hOi.frozen m
          have zN1 := hNi.frozen (m + 1)
          have zN0 := hNi.frozen m
          have cX := (hbi.cell (p := ⟨bx, ox + k, none⟩) hbx).trans (by assumption : w.cell? ⟨bx, ox + k, none⟩ = some (.int .i64 x))
          have b1 : 0 ≤ c1 ∧ c1 ≤ 256 := by rw [HC1.out]; exact (inO_rng f3 m).getD m
          have b2 : 0 ≤ c2 ∧ c2 ≤ 256 := by rw [HC2.out]; exact f4.getD m
          have b3 : 0 ≤ c3 ∧ c3 ≤ 256 := by rw [HC3.out]; exact (inN_rng x g m).getD (m + 1)
          have b4 : 0 ≤ c4 ∧ c4 ≤ 256 := by rw [HC4.out]; exact (inN_rng x g m).getD m
          have m12 := mul_bd hf b2
          have m42 : 0 ≤ (257 - x) * c2 ∧ (257 - x) * c2 ≤ 65792 := ⟨Int.mul_nonneg (by omega) b2.1, by have := Int.mul_le_mul (a := 257 - x) (c := 257) (b := c2) (d := 256) (by omega) b2.2 b2.1 (by omega); omega⟩
          go_wp2_with fail
          go_region
          go_wp2
          have E1 : inO f g o (m + 1) = (inO f g o m).set m ((c1 + f * c2) % 257) := by rw [HC1.out, HC2.out]; rfl
          have E2 : inN x g (m + 1) = ((inN x g m).set (m + 1) ((c3 + c2) % 257)).set m ((c4 + (257 - x) * c2) % 257) := by
            have h := inN1_getD g (inN x g m) m m (by rw [inN_length, F2.out]; omega)
            rw [if_neg (by omega)] at h
            rw [HC2.out, HC3.out, HC4.out, ← h]
            rfl
          go_roundw
          case rel =>
            refine ⟨m + 1, by omega, by go_num, ?_, ?_, ?_, ?_⟩
            · rw [E1]; exact ((hOi.set m _).other (by simp; omega) _).other (by simp; omega) _
            · exact ((hGi.other (by simp; omega) _).other (by simp; omega) _).other (by simp; omega) _
            · rw [E2]; exact ((hNi.other (by simp; omega) _).set (m + 1) _).set m _
            · exact (((hbi.setCell (by simp) _).setCell (by simp; omega) _).setCell (by simp; omega) _).drew
          case measure => simp [intOf] <;> omega
        · obtain rfl : m = k + 1 := by omega
          go_wp2
          go_roundw
          case rel => exact ⟨k + 1, GN, by omega, by go_num, rfl, by omega, by rw [HT.out]; exact hOi, by rw [HT.out]; exact hNi, hbi⟩
          case measure => simp [intOf] <;> omega
    · obtain rfl : k = xs.length := by omega
      go_wp2
      go_ret
      exact ⟨rfl, hO, hb⟩

theorem through_ys (ax ay : Option Addr) (cx cy : Nat) (xs ys : List Int) (w : World) (hx : RowI .i64 w ax xs) (hy : RowI .i64 w ay ys) (hl : ys.length = xs.length) (rx : Rng xs) (ry : Rng ys) (hap : ApartTo xs xs.length) (hn : xs.length ≤ 64) :
    Calls Try.prog 94 #[.slice ax xs.length cx, .slice ay ys.length cy] w fun e w' => e = .returned (.slice (some ⟨w.heap.size, 0, none⟩) xs.length xs.length) ∧ BlkI .i64 3 w' w.heap.size (through xs ys) ∧ Below w.heap.size w w' := by
  rw [hl]
  exact through_any ax ay cx cy xs ys w hx hy hl rx ry hap hn
end Go.Proofs.Ytbljihhelladbaa.sh
