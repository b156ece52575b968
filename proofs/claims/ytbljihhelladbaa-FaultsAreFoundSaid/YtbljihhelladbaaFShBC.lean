/-
  Contracts of value, ValueOf, rangeFault, First, When, mod and through. Conditions: numbers from 0 to 256. Shares as the proofs read them, plain: what is wrong with shares, the polynomials through them, what lies on them, what fits. No program, no condition. Arguments that are slices of integers, opened for the walks: their numbers, their room, their bulk. No condition. Slices of shares as the walks read them ('RowS'), and such arguments opened. No condition.
-/
import Derived.Test.YtbljihhelladbaaFMem
import Derived.Test.YtbljihhelladbaaFGsB
import Derived.Deep.OwnRows
import Derived.ChangeSlices
import Derived.ProofKit
import Derived.WideShapes
import Derived.OpenShut
import Derived.Deep.Slices
/- Contracts of share.value, rangeFault, Value; keyref2.When, First, mod, ValueOf. Conditions: the ranges that are named. -/
namespace Go.Proofs.Ytbljihhelladbaa.sh
set_option linter.unusedSimpArgs false
set_option linter.unusedVariables false
open Go.RowKit Go.Proofs.Ytbljihhelladbaa.Fld
theorem ev_step (l : List Int) (x : Int) (k : Nat) (hk : k < l.length) : (ev (l.drop (k + 1)) x % 257 * x + l.getD k 0) % 257 = ev (l.drop k) x % 257 := by
  have e : l.drop k = l[k] :: l.drop (k + 1) := List.drop_eq_getElem_cons hk
  rw [e, getD_lt l 0 hk]
  have h : Cg (ev (l.drop (k + 1)) x % 257 * x) (x * ev (l.drop (k + 1)) x) := (Cg.mul_right x (Cg.mod _)).trans (Cg.of_eq (Int.mul_comm _ _))
  show (_ + _) % 257 = (l[k] + x * ev (l.drop (k + 1)) x) % 257
  unfold Cg at h
  omega
theorem value_any (ao : Option Addr) (cap : Nat) (l : List Int) (x : Int) (w : World) (hr : RowI .i64 w ao l) (hl : Rng l) (hx : 0 ≤ x ∧ x ≤ 256) (hn : l.length ≤ 4611686018427387904) :
    Calls Try.prog 92 #[.slice ao l.length cap, .int .i64 x] w fun e w' => e = .returned (.int .i64 (ev l x % 257)) ∧ w = w' := by
  go_enter Try.func92, Try.ntmps92
  go_wp2
  go_loop [5, 6] (fun v i => ∃ k : Nat, k ≤ l.length ∧ i = .int .i64 ((k : Int) - 1) ∧ v = .int .i64 (ev (l.drop k) x % 257)) (fun _ i => (intOf i + 1).toNat)
  case atStart => exact ⟨l.length, Nat.le_refl _, rfl, by simp [ev]⟩
  case round =>
    obtain ⟨k, hk, rfl, rfl⟩ := hrel
    by_cases h0 : 0 < k
    · obtain ⟨k, rfl⟩ : ∃ j, k = j + 1 := ⟨k - 1, by omega⟩
      obtain ⟨b, off, c, rfl, hb, HC, hcell⟩ := hr.elem (i := k) (by omega)
      have hm := mul_bd (mod_range (ev (l.drop (k + 1)) x)) hx
      have hg := hl.getD k
      rw [← HC.out] at hg
      have HS := ev_step l x k (by omega)
      rw [← HC.out] at HS
      replace HS := hid HS
      go_wp2
      go_round
      case rel => exact ⟨k, by omega, by go_num, by rw [HS.out]⟩
      case measure => simp [intOf] <;> omega
    · go_wp2
      go_ret
      exact ⟨rv (ri (by rw [show k = 0 by omega]; rfl)), rfl⟩
/-- an error, if it is so -/
def whenE (b : Bool) (n : Int) : Int := if b then n else 0
theorem When_any (b : Bool) (n : Int) (w : World) : Calls Try.prog 21 #[.bool b, .int .i64 n] w fun e w' => e = .returned (.int .i64 (whenE b n)) ∧ w = w' := by
  cases b
  · go_enter Try.func21, Try.ntmps21
    go_wp2
    go_ret
    exact ⟨rfl, rfl⟩
  · go_enter Try.func21, Try.ntmps21
    go_wp2
    go_ret
    exact ⟨rfl, rfl⟩
/-- the first number that is not 0 -/
def firstE : List Int → Int
  | [] => 0
  | n :: l => if n = 0 then firstE l else n
theorem firstE_drop (l : List Int) (k : Nat) (hk : k < l.length) : firstE (l.drop k) = if l.getD k 0 = 0 then firstE (l.drop (k + 1)) else l.getD k 0 := by
  have e : l.drop k = l[k] :: l.drop (k + 1) := List.drop_eq_getElem_cons hk
  rw [e, getD_lt l 0 hk]
  rfl
theorem First_any (ao : Option Addr) (cap : Nat) (l : List Int) (w : World) (hr : RowI .i64 w ao l) (hn : l.length ≤ 4611686018427387904) :
    Calls Try.prog 23 #[.slice ao l.length cap] w fun e w' => e = .returned (.int .i64 (firstE l)) ∧ w = w' := by
  go_enter Try.func23, Try.ntmps23
  go_wp2
  go_loop [4, 7] (fun _ i => ∃ k : Nat, k ≤ l.length ∧ i = .int .i64 k ∧ firstE (l.drop k) = firstE l) (fun _ i => l.length - (intOf i).toNat)
  case atStart => exact ⟨0, Nat.zero_le _, rfl, rfl⟩
  case round =>
    obtain ⟨k, hk, rfl, ha⟩ := hrel
    have HA := hid ha; clear ha
    by_cases h0 : k < l.length
    · obtain ⟨b, off, c, rfl, hb, HC, hcell⟩ := hr.elem (i := k) h0
      have HD := firstE_drop l k h0
      rw [← HC.out, HA.out] at HD
      replace HD := hid HD
      by_cases hc : c = 0
      · have HZ := hid hc
        have hc' : (c != 0) = false := by simp [hc]
        clear hc
        go_wp2
        go_round
        case rel => exact ⟨k + 1, by omega, by go_num, by rw [HD.out, if_pos HZ.out]⟩
        case measure => simp [intOf] <;> omega
      · have hc' : (c != 0) = true := by simp [hc]
        have HZ := hid hc
        clear hc
        go_wp2
        go_ret
        exact ⟨rv (ri (by rw [HD.out, if_neg HZ.out])), rfl⟩
    · go_wp2
      go_ret
      exact ⟨rv (ri (by rw [← HA.out, List.drop_eq_nil_of_le (by omega)]; rfl)), rfl⟩
theorem tmod_mod' (n : Int) : (n.tmod 257 + 257) % 257 = n % 257 := by
  by_cases h0 : 0 ≤ n
  · rw [Int.tmod_eq_emod_of_nonneg h0]; omega
  · have h1 : n.tmod 257 = -((-n) % 257) := by
      have : n = -(-n) := by omega
      rw [this, Int.neg_tmod, Int.tmod_eq_emod_of_nonneg (by omega)]
      simp
    rw [h1]; omega
theorem tmod_bd (n : Int) : -256 ≤ n.tmod 257 ∧ n.tmod 257 ≤ 256 := by
  by_cases h : 0 ≤ n
  · rw [Int.tmod_eq_emod_of_nonneg h]; omega
  · have h1 : n.tmod 257 = -((-n) % 257) := by
      have : n = -(-n) := by omega
      rw [this, Int.neg_tmod, Int.tmod_eq_emod_of_nonneg (by omega)]
      simp
    omega
theorem mod_any (n : Int) (w : World) : Calls Try.prog 93 #[.int .i64 n] w fun e w' => e = .returned (.int .i64 (n % 257)) ∧ w = w' := by
  have H := hid (tmod_mod' n)
  have hb := tmod_bd n
  by_cases h : 0 ≤ n
  · go_enter Try.func93, Try.ntmps93
    go_wp2
    go_ret
    exact ⟨rv (ri (by omega)), rfl⟩
  · go_enter Try.func93, Try.ntmps93
    go_wp2
    go_ret
    exact ⟨rv (ri (by have := H.out; omega)), rfl⟩
/-- the powers and the sum of the first k terms -/
theorem ev_take_succ (l : List Int) (x : Int) (k : Nat) (hk : k < l.length) : ev (l.take (k + 1)) x = ev (l.take k) x + x ^ k * l.getD k 0 := by
  rw [List.take_succ_eq_append_getElem hk, ev_append, getD_lt l 0 hk, List.length_take, Nat.min_eq_left (by omega)]
  simp [ev]
end Go.Proofs.Ytbljihhelladbaa.sh
/- Contract of share.through: the polynomial that Newton's steps give, in new memory. Conditions: as many places as values, 64 at most, all from 0 to 256, the places different. -/
namespace Go.Proofs.Ytbljihhelladbaa.sh
open Go.RowKit Go.Proofs.Ytbljihhelladbaa.Fld
theorem value_n {n : Nat} (ao : Option Addr) (cap : Nat) (l : List Int) (x : Int) (w : World) (hn : n = l.length) (hr : RowI .i64 w ao l) (hl : Rng l) (hx : 0 ≤ x ∧ x ≤ 256) (hs : n ≤ 4611686018427387904) :
    Calls Try.prog 92 #[.slice ao n cap, .int .i64 x] w fun e w' => e = .returned (.int .i64 (ev l x % 257)) ∧ w' = w := by
  subst hn
  exact (value_any ao cap l x w hr hl hx hs).mono fun _ _ ⟨h1, h2⟩ => ⟨h1, h2.symm⟩
theorem infoInt : (Try.prog.info? 3).map (fun i => (i.zero, i.size, i.bytes)) = some (some (.int .i64 0), 1, 8) := by kernel_rfl
set_option maxRecDepth 100000 in
set_option maxHeartbeats 2000000 in
theorem through_any (ax ay : Option Addr) (cx cy : Nat) (xs ys : List Int) (w : World) (hx : RowI .i64 w ax xs) (hy : RowI .i64 w ay ys) (hl : ys.length = xs.length) (rx : Rng xs) (ry : Rng ys) (hap : ApartTo xs xs.length) (hn : xs.length ≤ 64) :
    Calls Try.prog 94 #[.slice ax xs.length cx, .slice ay xs.length cy] w fun e w' => e = .returned (.slice (some ⟨w.heap.size, 0, none⟩) xs.length xs.length) ∧ BlkI .i64 3 w' w.heap.size (through xs ys) ∧ Below w.heap.size w w' := by
  have hmk := run_make_row' (P := Try.prog) 26 3 (.int .i64 0) 8 Try.underlying26 infoInt rfl .i64 .i64 xs.length (by omega) (by omega)
  have HL := hid hl; clear hl
  go_enter Try.func94, Try.ntmps94
  go_wp2
  go_loopw [6, 19] (fun gr i wr => ∃ k gg : Nat, k ≤ xs.length ∧ i = .int .i64 k ∧ gr = .slice (some ⟨gg, 0, none⟩) (k + 1) (k + 1) ∧ w.heap.size < gg ∧
      BlkI .i64 3 wr w.heap.size (thr xs ys k).1 ∧ BlkI .i64 3 wr gg (thr xs ys k).2 ∧ Below w.heap.size w wr) (fun _ i _ => xs.length - (intOf i).toNat)
  case atStart => exact ⟨0, w.heap.size + 1, Nat.zero_le _, rfl, rfl, by omega, (BlkI.made .i64 _ w _).alloc _, BlkI.new' .i64 _ _ [1] (by simp), ((Below.refl _ _).alloc (Nat.le_refl _) _).alloc (by simp) _⟩
  case round =>
    obtain ⟨k, gg, hk, rfl, rfl, hgg, hO, hG, hb⟩ := hrel
    by_cases h0 : k < xs.length
    · obtain ⟨f1, f2, f3, f4, f5, f6⟩ := thr_facts xs ys hap k hk
      obtain ⟨bx, ox, x, rfl, hbx, HX, cx0⟩ := hx.elem (i := k) h0
      obtain ⟨by_, oy, y, rfl, hby, HY, cy0⟩ := hy.elem (i := k) (by rw [HL.out]; exact h0)
      have cx1 := (hb.cell (p := ⟨bx, ox + k, none⟩) hbx).trans cx0
      have cy1 := (hb.cell (p := ⟨by_, oy + k, none⟩) hby).trans cy0
      have bxx : 0 ≤ x ∧ x ≤ 256 := by rw [HX.out]; exact rx.getD k
      have byy : 0 ≤ y ∧ y ≤ 256 := by rw [HY.out]; exact ry.getD k
      have F1 := hid f1
      have F2 := hid f2
      clear f1 f2 f5 f6 cy0
      have hmk2 := run_make_row' (P := Try.prog) 26 3 (.int .i64 0) 8 Try.underlying26 infoInt rfl .i64 .i64 (k + 2) (by omega) (by omega)
      have e2 : ((k + 2 : Nat) : Int) = (k : Int) + 1 + 1 := by omega
      rw [e2] at hmk2
      clear e2
      have hkz : (k : Int) < (xs.length : Int) := by omega
      have he1 := mod_range (ev (thr xs ys k).1 x)
      have he2 := mod_range (ev (thr xs ys k).2 x)
      go_wp2_with fail
      go_quiet ((go_at_call 92; exact Calls.quiet_of_same (value_n _ _ _ _ _ F1.out.symm (hO.row.drewN _) f3 bxx (by omega))))
      go_wp2_with fail
      refine (value_n _ _ _ _ _ F2.out.symm (hG.row.drewN _) f4 bxx (by omega)).mono ?_
      rintro e w1 ⟨rfl, rfl⟩
      go_wp2_with fail
      refine (over_any _ _ _ (by omega) (by omega)).mono ?_
      rintro e w1 ⟨rfl, rfl⟩
      have hf := overP_range ((y - ev (thr xs ys k).1 x) % 257) (ev (thr xs ys k).2 x % 257)
      obtain ⟨f, HF⟩ : ∃ f, Hid (f = overP ((y - ev (thr xs ys k).1 x) % 257) (ev (thr xs ys k).2 x % 257)) := ⟨_, rfl⟩
      rw [← HF.out] at hf ⊢
      go_wp2_with fail
      have hOn := (hO.drewN nq).alloc (.cells (madeCells #[.int .i64 0] (k + 2)) 3)
      have hGn := (hG.drewN nq).alloc (.cells (madeCells #[.int .i64 0] (k + 2)) 3)
      have HT : Hid (thr xs ys (k + 1) = (inO f (thr xs ys k).2 (thr xs ys k).1 (k + 1), inN x (thr xs ys k).2 (k + 1))) := by
        rw [HF.out, HX.out, HY.out]
        show thr xs ys (k + 1) = _
        simp only [thr]
        rw [F2.out]
      clear HF HY cy1 byy
      have hbn := (bdN hb nq).alloc (Nat.le_of_lt (by have := hO.lt; simpa using this)) (.cells (madeCells #[.int .i64 0] (k + 2)) 3)
      have hNn := BlkI.made' .i64 3 (wr.drewN nq) (g := wr.heap.size) (k + 2) rfl
      have hBg := hG.lt
      generalize (thr xs ys k).1 = o at *
      generalize (thr xs ys k).2 = g at *
      generalize hGN : wr.heap.size = GN at *
      clear hGN hO hG hb hx hy hmk hmk2
      go_loopw [49] (fun i wi => ∃ m : Nat, m ≤ k + 1 ∧ i = .int .i64 m ∧ BlkI .i64 3 wi w.heap.size (inO f g o m) ∧ BlkI .i64 3 wi gg g ∧ BlkI .i64 3 wi GN (inN x g m) ∧ Below w.heap.size w wi) (fun i _ => k + 1 - (intOf i).toNat)
      case atStart => exact ⟨0, by omega, rfl, hOn, hGn, by unfold inN; rw [F2.out]; exact hNn, hbn⟩
      case round =>
        obtain ⟨m, hm, rfl, hOi, hGi, hNi, hbi⟩ := hrel
        by_cases h1 : m < k + 1
        · obtain ⟨c1, HC1, cO⟩ := hOi.elem (i := m) (by rw [inO_length, F1.out]; omega)
          obtain ⟨c2, HC2, cG⟩ := hGi.elem (i := m) (by rw [F2.out]; omega)
          obtain ⟨c3, HC3, cN1⟩ := hNi.elem (i := m + 1) (by rw [inN_length, F2.out]; omega)
          obtain ⟨c4, HC4, cN0⟩ := hNi.elem (i := m) (by rw [inN_length, F2.out]; omega)
          have zO := hOi.frozen m
          have zN1 := hNi.frozen (m + 1)
          have zN0 := hNi.frozen m
          have cX := (hbi.cell (p := ⟨bx, ox + k, none⟩) hbx).trans (by assumption : w.cell? ⟨bx, ox + k, none⟩ = some (.int .i64 x))
          have b1 : 0 ≤ c1 ∧ c1 ≤ 256 := by rw [HC1.out]; exact (inO_rng f3 m).getD m
          have b2 : 0 ≤ c2 ∧ c2 ≤ 256 := by rw [HC2.out]; exact f4.getD m
          have b3 : 0 ≤ c3 ∧ c3 ≤ 256 := by rw [HC3.out]; exact (inN_rng x g m).getD (m + 1)
          have b4 : 0 ≤ c4 ∧ c4 ≤ 256 := by rw [HC4.out]; exact (inN_rng x g m).getD m
          have m12 := mul_bd hf b2
          have m42 : 0 ≤ (257 - x) * c2 ∧ (257 - x) * c2 ≤ 65792 := ⟨Int.mul_nonneg (by omega) b2.1, by have := Int.mul_le_mul (a := 257 - x) (c := 257) (b := c2) (d := 256) (by omega) b2.2 b2.1 (by omega); omega⟩
          go_wp2_with fail
          go_region
          go_wp2
          have E1 : inO f g o (m + 1) = (inO f g o m).set m ((c1 + f * c2) % 257) := by rw [HC1.out, HC2.out]; rfl
          have E2 : inN x g (m + 1) = ((inN x g m).set (m + 1) ((c3 + c2) % 257)).set m ((c4 + (257 - x) * c2) % 257) := by
            have h := inN1_getD g (inN x g m) m m (by rw [inN_length, F2.out]; omega)
            rw [if_neg (by omega)] at h
            rw [HC2.out, HC3.out, HC4.out, ← h]
            rfl
          go_roundw
          case rel =>
            refine ⟨m + 1, by omega, by go_num, ?_, ?_, ?_, ?_⟩
            · rw [E1]; exact ((hOi.set m _).other (by simp; omega) _).other (by simp; omega) _
            · exact ((hGi.other (by simp; omega) _).other (by simp; omega) _).other (by simp; omega) _
            · rw [E2]; exact ((hNi.other (by simp; omega) _).set (m + 1) _).set m _
            · exact (((hbi.setCell (by simp) _).setCell (by simp; omega) _).setCell (by simp; omega) _).drew
          case measure => simp [intOf] <;> omega
        · obtain rfl : m = k + 1 := by omega
          go_wp2
          go_roundw
          case rel => exact ⟨k + 1, GN, by omega, by go_num, rfl, by omega, by rw [HT.out]; exact hOi, by rw [HT.out]; exact hNi, hbi⟩
          case measure => simp [intOf] <;> omega
    · obtain rfl : k = xs.length := by omega
      go_wp2
      go_ret
      exact ⟨rfl, hO, hb⟩
end Go.Proofs.Ytbljihhelladbaa.sh
namespace Go.Proofs.Ytbljihhelladbaa.shr
set_option linter.unusedSimpArgs false
set_option linter.unusedVariables false
open Go.RowKit Go.Proofs.Ytbljihhelladbaa.Fld Go.Proofs.Ytbljihhelladbaa.sh
/-- a share: its holder's octets, its place, its values -/
structure Sh where
  h : List Int
  x : Int
  y : List Int
/-- its cells -/
def Sh.cs (s : Sh) : List Value := s.h.map (Value.int .u8) ++ (Value.int .i64 s.x :: s.y.map (Value.int .u16))
structure Sh.Ok (s : Sh) : Prop where
  hl : s.h.length = 16
  yl : s.y.length = 32
  hb : ∀ c ∈ s.h, 0 ≤ c ∧ c ≤ 255
  yb : ∀ c ∈ s.y, 0 ≤ c ∧ c ≤ 65535
  xb : -9223372036854775808 ≤ s.x ∧ s.x ≤ 9223372036854775807
def nil : Sh := ⟨[], 0, []⟩
theorem Sh.Ok.csl {s : Sh} (h : s.Ok) : s.cs.length = 49 := by
  unfold Sh.cs
  simp [h.hl, h.yl]
def badY (s : Sh) : Bool := s.y.any fun n => decide (257 ≤ n)
def same (s t : Sh) : Bool := t.x == s.x || t.h == s.h
/-- what is wrong with a share behind others -/
def faultIn (old : List Sh) (s : Sh) : Int := if inB s.x 1 256 = false then 4 else if old.any (same s) = true then 8 else if badY s = true then 4 else 0
def eachTo (l : List Sh) : Nat → Int
  | 0 => 0
  | k + 1 => if eachTo l k = 0 then faultIn (l.take k) (l.getD k nil) else eachTo l k
def eachE (l : List Sh) : Int := eachTo l l.length
theorem eachTo_stop (l : List Sh) (k : Nat) (h : eachTo l k ≠ 0) : ∀ m, k ≤ m → eachTo l m = eachTo l k := by
  intro m hm
  induction m with
  | zero => rw [show k = 0 by omega]
  | succ m ih =>
    by_cases e : k = m + 1
    · rw [e]
    · have h1 := ih (by omega)
      show (if eachTo l m = 0 then _ else eachTo l m) = _
      rw [if_neg (by rw [h1]; exact h), h1]
theorem eachE_bad (l : List Sh) (k : Nat) (hk : k < l.length) (h0 : eachTo l k = 0) (h : faultIn (l.take k) (l.getD k nil) ≠ 0) : eachE l = faultIn (l.take k) (l.getD k nil) := by
  have e : eachTo l (k + 1) = faultIn (l.take k) (l.getD k nil) := if_pos h0
  have := eachTo_stop l (k + 1) (by rw [e]; exact h) l.length (by omega)
  unfold eachE
  rw [this, e]
theorem eachTo_step (l : List Sh) (k : Nat) (h0 : eachTo l k = 0) (h : faultIn (l.take k) (l.getD k nil) = 0) : eachTo l (k + 1) = 0 := by
  show (if eachTo l k = 0 then faultIn (l.take k) (l.getD k nil) else eachTo l k) = 0
  rw [if_pos h0, h]
theorem eachTo_all (l : List Sh) (h : eachE l = 0) (k : Nat) (hk : k ≤ l.length) : eachTo l k = 0 := by
  refine Classical.byContradiction fun hc => ?_
  have := eachTo_stop l k hc l.length hk
  unfold eachE at h
  rw [h] at this
  exact hc this.symm
theorem fault_all (l : List Sh) (h : eachE l = 0) (k : Nat) (hk : k < l.length) : faultIn (l.take k) (l.getD k nil) = 0 := by
  have h1 := eachTo_all l h (k + 1) (by omega)
  have h0 := eachTo_all l h k (by omega)
  have e : eachTo l (k + 1) = faultIn (l.take k) (l.getD k nil) := if_pos h0
  rw [← e, h1]
theorem fault_zero {old : List Sh} {s : Sh} (h : faultIn old s = 0) : (1 ≤ s.x ∧ s.x ≤ 256) ∧ old.any (same s) = false ∧ badY s = false := by
  unfold faultIn at h
  split at h
  · cases h
  · rename_i h1
    split at h
    · cases h
    · rename_i h2
      split at h
      · cases h
      · rename_i h3
        simp only [inB, Bool.not_eq_false, Bool.and_eq_true, decide_eq_true_eq] at h1
        exact ⟨h1, by simpa using h2, by simpa using h3⟩
/-- the error of shares; few: there can be fewer than need -/
def sharesE (few : Bool) (need : Int) (l : List Sh) : Int :=
  if inB need 1 32 = false then 4 else if (!few && decide ((l.length : Int) < need)) = true then 18 else if 32 < l.length then 5 else eachE l
def xsOf (l : List Sh) : List Int := l.map (·.x)
def ysOf (l : List Sh) (o : Nat) : List Int := l.map fun s => s.y.getD o 0
theorem xsOf_length (l : List Sh) : (xsOf l).length = l.length := by simp [xsOf]
theorem ysOf_length (l : List Sh) (o : Nat) : (ysOf l o).length = l.length := by simp [ysOf]
theorem xsOf_take (l : List Sh) (n : Nat) : xsOf (l.take n) = (xsOf l).take n := by simp [xsOf]
theorem ysOf_take (l : List Sh) (o n : Nat) : ysOf (l.take n) o = (ysOf l o).take n := by simp [ysOf]
theorem xsOf_getD (l : List Sh) (i : Nat) (h : i < l.length) : (xsOf l).getD i 0 = (l.getD i nil).x := by simp [xsOf, List.getD_eq_getElem?_getD, h]
theorem ysOf_getD (l : List Sh) (o i : Nat) (h : i < l.length) : (ysOf l o).getD i 0 = (l.getD i nil).y.getD o 0 := by simp [ysOf, List.getD_eq_getElem?_getD, h]
/-- good shares: what the polynomials need -/
structure Good (l : List Sh) : Prop where
  rx : Rng (xsOf l)
  ry : ∀ o, Rng (ysOf l o)
  ap : ApartTo (xsOf l) (xsOf l).length
theorem rng_y {s : Sh} (hs : s.Ok) (h : badY s = false) (o : Nat) : 0 ≤ s.y.getD o 0 ∧ s.y.getD o 0 ≤ 256 := by
  by_cases ho : o < s.y.length
  · rw [getD_lt s.y 0 ho]
    have hm := List.getElem_mem ho
    have h1 := hs.yb _ hm
    unfold badY at h
    rw [List.any_eq_false] at h
    have h2 := h _ hm
    simp at h2
    omega
  · rw [getD_ge s.y 0 (by omega)]; omega
theorem good_of (l : List Sh) (hs : ∀ s ∈ l, s.Ok) (h : eachE l = 0) : Good l := by
  have hf : ∀ k, k < l.length → (1 ≤ (l.getD k nil).x ∧ (l.getD k nil).x ≤ 256) ∧ (l.take k).any (same (l.getD k nil)) = false ∧ badY (l.getD k nil) = false := fun k hk => fault_zero (fault_all l h k hk)
  refine ⟨?_, fun o => ?_, ?_⟩
  · refine Rng.of_getD fun i hi => ?_
    rw [xsOf_length] at hi
    rw [xsOf_getD l i hi]
    have := (hf i hi).1
    omega
  · refine Rng.of_getD fun i hi => ?_
    rw [ysOf_length] at hi
    rw [ysOf_getD l o i hi]
    refine rng_y (hs _ ?_) (hf i hi).2.2 o
    rw [getD_lt l nil hi]; exact List.getElem_mem hi
  · intro i j hij hj hc
    rw [xsOf_length] at hj
    rw [xsOf_getD l i (by omega), xsOf_getD l j hj] at hc
    have h1 := (hf i (by omega)).1
    have h2 := (hf j hj).1
    have he := hc.eq (by omega) (by omega)
    have h3 := (hf j hj).2.1
    rw [List.any_eq_false] at h3
    refine h3 (l.getD i nil) ?_ ?_
    · rw [getD_lt l nil (by omega : i < l.length)]
      exact List.mem_take_iff_getElem.2 ⟨i, by omega, rfl⟩
    · unfold same
      rw [Bool.or_eq_true]
      exact Or.inl (by simpa using he)
theorem Rng.take {l : List Int} (h : Rng l) (n : Nat) : Rng (l.take n) := fun c hc => h c (List.mem_of_mem_take hc)
theorem Good.take {l : List Sh} (h : Good l) (n : Nat) : Good (l.take n) := by
  refine ⟨by rw [xsOf_take]; exact Rng.take h.rx n, fun o => by rw [ysOf_take]; exact Rng.take (h.ry o) n, ?_⟩
  intro i j hij hj
  rw [xsOf_take] at hj ⊢
  rw [List.length_take] at hj
  have e : ∀ i, i < n → ((xsOf l).take n).getD i 0 = (xsOf l).getD i 0 := fun i hi => by simp [List.getD_eq_getElem?_getD, hi]
  rw [e i (by omega), e j (by omega)]
  exact h.ap i j hij (by omega)
/-- the polynomial of an octet, and its value -/
def polyOf (l : List Sh) (o : Nat) : List Int := through (xsOf l) (ysOf l o)
def valAt (l : List Sh) (o : Nat) (t : Int) : Int := atR (xsOf l) (ysOf l o) t
theorem Good.poly_rng {l : List Sh} (h : Good l) (o : Nat) : Rng (polyOf l o) := through_rng _ _ h.ap
theorem Good.poly_length {l : List Sh} (h : Good l) (o : Nat) : (polyOf l o).length = l.length := by unfold polyOf; rw [through_length _ _ h.ap, xsOf_length]
theorem Good.val {l : List Sh} (h : Good l) (o : Nat) (t : Int) : ev (polyOf l o) t % 257 = valAt l o t :=
  (atR_interp h.ap (through_interp _ _ h.ap) t).symm
theorem valAt_range (l : List Sh) (o : Nat) (t : Int) : 0 ≤ valAt l o t ∧ valAt l o t ≤ 256 := atR_range ..
/-- a share lies on the polynomials through others -/
def liesTo (by_ : List Sh) (s : Sh) (k : Nat) : Bool := (List.range k).all fun o => valAt by_ o s.x == s.y.getD o 0
def liesB (by_ : List Sh) (s : Sh) : Bool := liesTo by_ s 32
theorem liesTo_succ (b : List Sh) (s : Sh) (k : Nat) : liesTo b s (k + 1) = (liesTo b s k && (valAt b k s.x == s.y.getD k 0)) := by
  unfold liesTo; rw [List.range_succ, List.all_append]; simp
theorem liesB_false (b : List Sh) (s : Sh) (k : Nat) (hk : k < 32) (h : valAt b k s.x ≠ s.y.getD k 0) : liesB b s = false := by
  unfold liesB liesTo
  rw [List.all_eq_false]
  exact ⟨k, by simpa using hk, by simpa using h⟩
/-- the secret that the polynomials say: its octets, as far as they are octets -/
def faultAt0 (l : List Sh) : Bool := (List.range 32).any fun o => decide (valAt l o 0 = 256)
def secretTo (l : List Sh) (k : Nat) : List Int := (List.range k).map fun o => valAt l o 0
def secretOf (l : List Sh) : List Int := if faultAt0 l = true then List.replicate 32 0 else secretTo l 32
def secretE (l : List Sh) : Int := if faultAt0 l = true then 20 else 0
theorem fault0_of (l : List Sh) (k : Nat) (hk : k < 32) (h : valAt l k 0 = 256) : faultAt0 l = true := by
  unfold faultAt0
  rw [List.any_eq_true]
  exact ⟨k, by simpa using hk, by simpa using h⟩
theorem fault0_not (l : List Sh) (h : ∀ o, o < 32 → valAt l o 0 ≠ 256) : faultAt0 l = false := by
  unfold faultAt0
  rw [List.any_eq_false]
  intro o ho
  simpa using h o (by simpa using ho)
/-- the share of a secret itself -/
def sec (s : List Int) : Sh := ⟨List.replicate 16 0, 0, s⟩
theorem good_sec (s : List Int) (hs : ∀ c ∈ s, 0 ≤ c ∧ c ≤ 255) (l : List Sh) (hl : ∀ s ∈ l, s.Ok) (h : eachE l = 0) : Good (sec s :: l) := by
  have g := good_of l hl h
  refine ⟨?_, fun o => ?_, ?_⟩
  · intro c hc
    simp only [xsOf, List.map_cons, List.mem_cons] at hc
    rcases hc with rfl | hc
    · simp [sec]
    · exact g.rx c hc
  · intro c hc
    simp only [ysOf, List.map_cons, List.mem_cons] at hc
    rcases hc with rfl | hc
    · show 0 ≤ s.getD o 0 ∧ s.getD o 0 ≤ 256
      by_cases ho : o < s.length
      · rw [getD_lt s 0 ho]
        have := hs _ (List.getElem_mem ho)
        omega
      · rw [getD_ge s 0 (by omega)]; omega
    · exact g.ry o c hc
  · intro i j hij hj hc
    simp only [xsOf, List.map_cons, List.length_cons, List.length_map] at hj
    obtain ⟨j, rfl⟩ : ∃ m, j = m + 1 := ⟨j - 1, by omega⟩
    have ej : (xsOf (sec s :: l)).getD (j + 1) 0 = (xsOf l).getD j 0 := by simp [xsOf]
    rw [ej] at hc
    have h2 := (fault_zero (fault_all l h j (by omega))).1
    rw [xsOf_getD l j (by omega)] at hc
    cases i with
    | zero =>
      have : (xsOf (sec s :: l)).getD 0 0 = 0 := by simp [xsOf, sec]
      rw [this] at hc
      have := hc.eq (by omega) (by omega)
      omega
    | succ i =>
      have ei : (xsOf (sec s :: l)).getD (i + 1) 0 = (xsOf l).getD i 0 := by simp [xsOf]
      rw [ei, ← xsOf_getD l j (by omega)] at hc
      exact g.ap i j (by omega) (by rw [xsOf_length]; omega) hc
/-- all behind the first lie on the polynomials through the first -/
def agreeB (l : List Sh) (n : Nat) : Bool := (l.drop n).all (liesB (l.take n))
end Go.Proofs.Ytbljihhelladbaa.shr
namespace Go.Proofs.Ytbljihhelladbaa.opn
set_option linter.unusedSimpArgs false
set_option linter.unusedVariables false
open Go.ChangeShapes Go.WideShapes Go.ChangeAt Go.RowKit
/-- what a slice of integers is, behind the law's form -/
structure IntsAt {H : Type} (P : Program) (W : World) (k : IntKind) (v : Value) (d : DataW H) (l : List Int) (ao : Option Addr) (cap : Nat) : Prop where
  val : v = .slice ao l.length cap
  le : l.length ≤ cap
  row : RowI k W ao l
  none : ao = none → cap = 0 ∧ l.length = 0
  bulk : l.length ≤ Rows.uptoBulk d
  wf : ∀ n ∈ l, (Lit.int k n).wf = true
theorem lt_of_cell' {w : World} {a : Addr} {u : Value} (h : w.cell? a = some u) : a.block < w.heap.size := by
  unfold World.cell? at h
  by_cases hb : a.block < w.heap.size
  · exact hb
  · simp [Array.getElem?_eq_none (by omega : w.heap.size ≤ a.block)] at h
end Go.Proofs.Ytbljihhelladbaa.opn
namespace Go.Proofs.Ytbljihhelladbaa.shr
set_option linter.unusedSimpArgs false
set_option linter.unusedVariables false
open Go.RowKit Go.ChangeShapes Go.WideShapes Go.ChangeAt
/-- behind the address lie these shares -/
def RowS (w : World) (ao : Option Addr) (l : List Sh) : Prop :=
  l = [] ∨ ∃ b off, ao = some ⟨b, off, none⟩ ∧ b < w.heap.size ∧ ∀ i, i < l.length → At w ⟨b, off + i * 49, none⟩ (l.getD i nil).cs
theorem RowS.at {w : World} {ao : Option Addr} {l : List Sh} (h : RowS w ao l) {i : Nat} (hi : i < l.length) : ∃ b off, ao = some ⟨b, off, none⟩ ∧ b < w.heap.size ∧ ∀ i, i < l.length → At w ⟨b, off + i * 49, none⟩ (l.getD i nil).cs := by
  rcases h with h | h
  · subst h; simp at hi
  · exact h
/-- one share, under a name of its own -/
theorem RowS.elem {w : World} {ao : Option Addr} {l : List Sh} (h : RowS w ao l) {i : Nat} (hi : i < l.length) :
    ∃ b off s, ao = some ⟨b, off, none⟩ ∧ b < w.heap.size ∧ Hid (s = l.getD i nil) ∧ At w ⟨b, off + i * 49, none⟩ s.cs := by
  obtain ⟨b, off, h1, h2, h3⟩ := h.at hi
  exact ⟨b, off, _, h1, h2, rfl, h3 i hi⟩
theorem At.below {w w' : World} {a : Addr} {cs : List Value} (h : At w a cs) (hb : Below w.heap.size w w') (ha : a.block < w.heap.size) : At w' a cs := by
  intro j u hu
  have e : (a.add j).block = a.block := by unfold Addr.add; split <;> rfl
  rw [hb.cell (p := a.add j) (by rw [e]; exact ha)]
  exact h j u hu
theorem At.belowB {w w' : World} {B : Nat} {a : Addr} {cs : List Value} (h : At w a cs) (hb : Below B w w') (ha : a.block < B) : At w' a cs := by
  intro j u hu
  have e : (a.add j).block = a.block := by unfold Addr.add; split <;> rfl
  rw [hb.cell (p := a.add j) (by rw [e]; exact ha)]
  exact h j u hu
theorem RowS.below {w w' : World} {ao : Option Addr} {l : List Sh} (h : RowS w ao l) (hb : Below w.heap.size w w') : RowS w' ao l := by
  rcases h with h | ⟨b, off, h1, h2, h3⟩
  · exact Or.inl h
  · exact Or.inr ⟨b, off, h1, Nat.lt_of_lt_of_le h2 hb.size, fun i hi => At.below (h3 i hi) hb h2⟩
theorem RowS.take {w : World} {ao : Option Addr} {l : List Sh} (h : RowS w ao l) (n : Nat) : RowS w ao (l.take n) := by
  rcases h with h | ⟨b, off, h1, h2, h3⟩
  · exact Or.inl (by simp [h])
  · refine Or.inr ⟨b, off, h1, h2, fun i hi => ?_⟩
    rw [List.length_take] at hi
    have e : (l.take n).getD i nil = l.getD i nil := by simp [List.getD_eq_getElem?_getD, List.getElem?_take, show i < n by omega]
    rw [e]
    exact h3 i (by omega)
theorem RowS.drew {w : World} {ao : Option Addr} {l : List Sh} (h : RowS w ao l) : RowS w.drew ao l := h
theorem RowS.drewN {w : World} {ao : Option Addr} {l : List Sh} (h : RowS w ao l) (n : Nat) : RowS (w.drewN n) ao l := h
section
variable {H : Type} {enc : TypeId × Value → H} {P : Program} {w : World} {base : Nat} {spare : Nat → Bool} {held : Bool}
theorem arr_of_trod {t e : TypeId} {n fuel : Nat} {q : IntKind} {cs : List Value} {x : DataW H × List MemPlace} (ht : P.underlying t = some (.array n e)) (he : P.underlying e = some (.int q)) (hc : P.cellsOf e = 1) (hct : P.cellsOf t = n)
    (hf : DataW.trod enc P w base spare held fuel t cs = some x) : ∃ l : List Int, cs = l.map (Value.int q) ∧ l.length = n ∧ ∀ c ∈ l, (Lit.int q c).wf = true := by
  obtain ⟨xs, m, rfl, _, h1, h2, h3⟩ := DataW.trod_array ht hf
  rw [hct] at h1
  have h4 : ∀ i, i < n → ∃ c : Int, cs[i]? = some (.int q c) ∧ (Lit.int q c).wf = true := by
    intro i hi
    have h5 := h3 i hi
    rw [hc, Nat.mul_one, List.getElem?_eq_getElem (by omega)] at h5
    have hcs : (cs.drop i).take 1 = [cs[i]'(by omega)] := by
      rw [List.drop_eq_getElem_cons (by omega)]
      rfl
    rw [hcs] at h5
    obtain ⟨c, hcc, _, hw⟩ := DataW.trod_int he h5
    simp only [List.cons.injEq, and_true] at hcc
    exact ⟨c, by rw [List.getElem?_eq_getElem (by omega), hcc], hw⟩
  refine ⟨cs.map fun u => match u with | .int _ c => c | _ => 0, ?_, by rw [List.length_map]; exact h1, ?_⟩
  · rw [List.map_map]
    symm
    apply List.ext_getElem
    · simp
    · intro i hi1 hi2
      obtain ⟨c, h6, _⟩ := h4 i (by omega)
      rw [List.getElem?_eq_getElem (by omega)] at h6
      simp only [Option.some.injEq] at h6
      simp [h6]
  · intro c hc'
    obtain ⟨u, hu, rfl⟩ := List.mem_map.1 hc'
    obtain ⟨i, hi, rfl⟩ := List.getElem_of_mem hu
    obtain ⟨c, h6, h7⟩ := h4 i (by omega)
    rw [List.getElem?_eq_getElem hi] at h6
    simp only [Option.some.injEq] at h6
    rw [h6]
    exact h7
end
set_option maxRecDepth 100000 in
theorem shareCells {H : Type} {enc : TypeId × Value → H} {w : World} {base : Nat} {spare : Nat → Bool} {held : Bool} {fuel : Nat} {cs : List Value} {x : DataW H × List MemPlace}
    (h : DataW.trod enc Try.prog w base spare held fuel 61 cs = some x) : ∃ s : Sh, s.Ok ∧ cs = s.cs := by
  obtain ⟨xs, n, rfl, _, h1, h2, h3⟩ := DataW.trod_struct Try.underlying61 h
  rw [show Try.prog.cellsOf 61 = 49 by kernel_rfl] at h1
  have g0 : DataW.trod enc Try.prog w base spare held n 57 ((cs.drop 0).take (Try.prog.cellsOf 57)) = xs[0]? := h3 0 _ rfl
  have g1 : DataW.trod enc Try.prog w base spare held n 3 ((cs.drop 16).take (Try.prog.cellsOf 3)) = xs[1]? := h3 1 _ rfl
  have g2 : DataW.trod enc Try.prog w base spare held n 59 ((cs.drop 17).take (Try.prog.cellsOf 59)) = xs[2]? := h3 2 _ rfl
  have hx : xs.length = 3 := h2
  rw [List.getElem?_eq_getElem (by omega)] at g0 g1 g2
  simp only [show Try.prog.cellsOf 57 = 16 by kernel_rfl, show Try.prog.cellsOf 3 = 1 by kernel_rfl, show Try.prog.cellsOf 59 = 32 by kernel_rfl] at g0 g1 g2
  obtain ⟨lh, e0, l0, w0⟩ := arr_of_trod Try.underlying57 Try.underlying5 (by kernel_rfl) (by kernel_rfl) g0
  obtain ⟨x1, e1, _, w1⟩ := DataW.trod_int Try.underlying3 g1
  obtain ⟨ly, e2, l2, w2⟩ := arr_of_trod Try.underlying59 Try.underlying58 (by kernel_rfl) (by kernel_rfl) g2
  refine ⟨⟨lh, x1, ly⟩, ⟨l0, l2, fun c hc => bounds_u8 (w0 c hc), fun c hc => bounds_u16 (w2 c hc), bounds_i64 w1⟩, ?_⟩
  unfold Sh.cs
  have e : cs = (cs.drop 0).take 16 ++ ((cs.drop 16).take 1 ++ (cs.drop 17).take 32) := by
    apply List.ext_getElem?
    intro i
    simp only [List.drop_zero, List.getElem?_append, List.length_take, List.length_drop, List.getElem?_take, List.getElem?_drop]
    split
    · rw [if_pos (by omega)]
    · split
      · rw [if_pos (by omega)]; congr 1; omega
      · by_cases hi : i < 49
        · rw [if_pos (by omega)]; congr 1; omega
        · rw [if_neg (by omega), List.getElem?_eq_none (by omega)]
  rw [e, e0, e1, e2]
  rfl
/-- what a slice of shares is, behind the law's form -/
structure SharesAt {H : Type} (W : World) (v : Value) (d : DataW H) (l : List Sh) (ao : Option Addr) (cap : Nat) : Prop where
  val : v = .slice ao l.length cap
  le : l.length ≤ cap
  row : RowS W ao l
  none : ao = none → cap = 0 ∧ l.length = 0
  ok : ∀ s ∈ l, s.Ok
  len : cap ≤ maxLen
set_option maxRecDepth 100000 in
theorem shares {H : Type} {enc : TypeId × Value → H} {W : World} {base : Nat} {held : Bool} {r : Reach} {b0 : Nat} {v : Value} {d : DataW H} {ps : List MemPlace}
    (hval : Value.okWide Try.prog W r b0 47 v) (hd : DataW.Trod enc Try.prog W base (fun _ => true) held 47 v d ps) :
    ∃ l ao cap, SharesAt W v d l ao cap := by
  obtain ⟨a, len, cap, rfl⟩ := okWide_slice Try.underlying47 hval
  obtain ⟨fuel, hf⟩ := hd
  rcases Go.Deep.open_slice Try.underlying47 hf with ⟨h1, h2⟩ | ⟨ad, ln, cp, m, n, D, Pl, h1, h3, h4, h5, h6, h7, h8⟩
  · simp [Value.cells] at h1
    obtain ⟨rfl, rfl, rfl⟩ := h1
    exact ⟨[], none, 0, ⟨rfl, Nat.le_refl _, Or.inl rfl, fun _ => ⟨rfl, rfl⟩, (fun s hs => by cases hs), by decide⟩⟩
  · simp [Value.cells] at h1
    obtain ⟨rfl, rfl, rfl⟩ := h1
    simp only [if_true] at h6
    subst h6
    rw [show Try.prog.cellsOf 61 = 49 by kernel_rfl] at h8
    have hs : ∀ i, i < m → ∃ s : Sh, s.Ok ∧ At W (ad.add (i * 49)) s.cs := by
      intro i hi
      obtain ⟨cs', hc, ht⟩ := h8 i hi
      obtain ⟨s, hok, rfl⟩ := shareCells ht
      obtain ⟨_, hcl, hat⟩ := World.cells?_some hc
      refine ⟨s, hok, fun j u hu => ?_⟩
      have hj : j < 49 := by rw [← hcl]; exact (List.getElem?_eq_some_iff.1 hu).1
      rw [hat j hj, hu]
    have hs' : ∃ f : Nat → Sh, ∀ i, i < m → (f i).Ok ∧ At W (ad.add (i * 49)) (f i).cs := by
      refine ⟨fun i => if h : i < m then Classical.choose (hs i h) else nil, fun i hi => ?_⟩
      simp only [dif_pos hi]
      exact Classical.choose_spec (hs i hi)
    obtain ⟨f, hf2⟩ := hs'
    have hlen : ((List.range len).map f).length = len := by simp
    refine ⟨(List.range len).map f, some ad, m, ⟨by rw [hlen], by rw [hlen]; exact h4, ?_, (fun h => by cases h), ?_, h5⟩⟩
    · by_cases hl : len = 0
      · exact Or.inl (by subst hl; rfl)
      · have c0 := (hf2 0 (by omega)).2
        have hcs : (f 0).cs[0]? = some ((f 0).cs[0]'(by rw [(hf2 0 (by omega)).1.csl]; omega)) := List.getElem?_eq_getElem _
        have c1 := c0 0 _ hcs
        obtain ⟨b, off, spot⟩ := ad
        have hspot : spot = none := by simpa [Addr.add] using World.cell?_spot c1
        subst hspot
        have c2 : W.cell? ⟨b, off, none⟩ = some ((f 0).cs[0]'(by rw [(hf2 0 (by omega)).1.csl]; omega)) := by simpa [Addr.add] using c1
        refine Or.inr ⟨b, off, rfl, opn.lt_of_cell' c2, fun i hi => ?_⟩
        rw [hlen] at hi
        have e : ((List.range len).map f).getD i nil = f i := by simp [List.getD_eq_getElem?_getD, hi]
        rw [e]
        have := (hf2 i (by omega)).2
        rwa [show (⟨b, off, none⟩ : Addr).add (i * 49) = ⟨b, off + i * 49, none⟩ by unfold Addr.add; split <;> simp_all] at this
    · intro s hs
      obtain ⟨i, hi, rfl⟩ := List.mem_map.1 hs
      exact (hf2 i (by have := List.mem_range.1 hi; omega)).1
end Go.Proofs.Ytbljihhelladbaa.shr
