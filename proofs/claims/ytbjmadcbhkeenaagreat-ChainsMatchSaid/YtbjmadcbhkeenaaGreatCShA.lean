/-
  Contracts of share.isNumber, over, Plus, Times, Over, keyref2.In, keylaw2.shares. No condition beyond the ranges that are named. Contracts of value, ValueOf, rangeFault, First, When, mod and through. Conditions: numbers from 0 to 256. Shares as the proofs read them, plain: what is wrong with shares, the polynomials through them, what lies on them, what fits. No program, no condition. A polynomial through all points but a few, plain: the equations as the program sets them up, the division, and that the polynomial is found if there is one. Conditions: as stated.
-/
import Derived.Test.YtbjmadcbhkeenaaGreatCMem
import Derived.Test.YtbjmadcbhkeenaaGreatCNum
import Derived.Deep.OwnRows
set_option linter.unusedSimpArgs false
set_option linter.unusedVariables false
namespace Go.Proofs.YtbjmadcbhkeenaaGreat.sh
open Go.RowKit Fld
def inB (n low high : Int) : Bool := decide (low ≤ n) && decide (n ≤ high)
theorem In_any (n low high : Int) (w : World) : Calls Tryz.prog 80 #[.int .i64 n, .int .i64 low, .int .i64 high] w fun e w' => e = .returned (.bool (inB n low high)) ∧ w = w' := by
 by_cases h1 : low ≤ n
 ·by_cases h2 : n ≤ high
  ·go_enter Tryz.func80, Tryz.ntmps80
   go_wp2
   go_ret
   exact ⟨by simp [inB, h1, h2], rfl⟩
  ·go_enter Tryz.func80, Tryz.ntmps80
   go_wp2
   go_ret
   exact ⟨rv (rb (by simp [inB]; omega)), rfl⟩
 ·go_enter Tryz.func80, Tryz.ntmps80
  go_wp2
  go_ret
  exact ⟨rv (rb (by simp [inB]; omega)), rfl⟩
end Go.Proofs.YtbjmadcbhkeenaaGreat.sh
namespace Go.Proofs.YtbjmadcbhkeenaaGreat.sh
open Go.RowKit Fld
def whenE (b : Bool) (n : Int) : Int := if b then n else 0
theorem whenE_false (n : Int) : whenE false n = 0 := rfl
def firstE2 (x y : Int) : Int := if x = 0 then y else x
theorem When_any (b : Bool) (n : Int) (w : World) : Calls Tryz.prog 10 #[.bool b, .int .i64 n] w fun e w' => e = .returned (.int .i64 (whenE b n)) ∧ w = w' := by
 cases b
 ·go_enter Tryz.func10, Tryz.ntmps10
  go_wp2
  go_ret
  exact ⟨rfl, rfl⟩
 ·go_enter Tryz.func10, Tryz.ntmps10
  go_wp2
  go_ret
  exact ⟨rfl, rfl⟩
def firstE : List Int → Int
 | [] => 0
 | n :: l => if n = 0 then firstE l else n
theorem firstE_drop (l : List Int) (k : Nat) (hk : k < l.length) : firstE (l.drop k) = if l.getD k 0 = 0 then firstE (l.drop (k + 1)) else l.getD k 0 := by
 have e : l.drop k = l[k] :: l.drop (k + 1) := List.drop_eq_getElem_cons hk
 rw [e, getD_lt l 0 hk]
 rfl
theorem First_any (ao : Option Addr) (cap : Nat) (l : List Int) (w : World) (hr : RowI .i64 w ao l) (hn : l.length ≤ 4611686018427387904) :
  Calls Tryz.prog 9 #[.slice ao l.length cap] w fun e w' => e = .returned (.int .i64 (firstE l)) ∧ w = w' := by
 go_enter Tryz.func9, Tryz.ntmps9
 go_wp2
 go_loop [4, 7] (fun _ i => ∃ k : Nat, k ≤ l.length ∧ i = .int .i64 k ∧ firstE (l.drop k) = firstE l) (fun _ i => l.length - (intOf i).toNat)
 case atStart => exact ⟨0, Nat.zero_le _, rfl, rfl⟩
 case round =>
  obtain ⟨k, hk, rfl, ha⟩ := hrel
  have HA := hid ha; clear ha
  by_cases h0 : k < l.length
  ·obtain ⟨b, off, c, rfl, hb, HC, hcell⟩ := hr.elem (i := k) h0
   have HD := firstE_drop l k h0
   rw [← HC.out, HA.out] at HD
   replace HD := hid HD
   by_cases hc : c = 0
   ·have HZ := hid hc
    have hc' : (c != 0) = false := by simp [hc]
    clear hc
    go_wp2
    go_round
    case rel => exact ⟨k + 1, by omega, by go_num, by rw [HD.out, if_pos HZ.out]⟩
    case measure => simp [intOf] <;> omega
   ·have hc' : (c != 0) = true := by simp [hc]
    have HZ := hid hc
    clear hc
    go_wp2
    go_ret
    exact ⟨rv (ri (by rw [HD.out, if_neg HZ.out])), rfl⟩
  ·go_wp2
   go_ret
   exact ⟨rv (ri (by rw [← HA.out, List.drop_eq_nil_of_le (by omega)]; rfl)), rfl⟩
theorem First_two (x y : Int) (w w0 : World) (hw : w0 = w.alloc (.cells #[.int .i64 x, .int .i64 y] 30)) :
  Calls Tryz.prog 9 #[.slice (some ⟨w.heap.size, 0, none⟩) 2 2] w0 fun e w' => e = .returned (.int .i64 (firstE2 x y)) ∧ w0 = w' := by
 subst hw
 unfold firstE2
 have h : RowI .i64 (w.alloc (.cells #[.int .i64 x, .int .i64 y] 30)) (some ⟨w.heap.size, 0, none⟩) [x, y] := by
  refine Or.inr ⟨_, _, rfl, by simp, fun i hi => ?_⟩
  rw [World.cell?_alloc_at _ _ _ _ (by simp)]
  match i, hi with
  | 0, _ => rfl
  | 1, _ => rfl
 refine (First_any _ 2 [x, y] _ h (by simp)).mono fun e w' ⟨h1, h2⟩ => ⟨?_, h2⟩
 rw [h1]
 simp only [firstE]
 by_cases hx : x = 0
 ·rw [if_pos hx, if_pos hx]
  by_cases hy : y = 0
  ·rw [if_pos hy, hy]
  ·rw [if_neg hy]
 ·rw [if_neg hx, if_neg hx]
end Go.Proofs.YtbjmadcbhkeenaaGreat.sh
namespace Go.Proofs.YtbjmadcbhkeenaaGreat.shr
open Go.RowKit Fld sh
structure Sh where
 h : List Int
 x : Int
 y : List Int
def Sh.cs (s : Sh) : List Value := s.h.map (Value.int .u8) ++ (Value.int .i64 s.x :: s.y.map (Value.int .u16))
structure Sh.Ok (s : Sh) : Prop where
 hl : s.h.length = 16
 yl : s.y.length = 32
 hb : ∀ c ∈ s.h, 0 ≤ c ∧ c ≤ 255
 yb : ∀ c ∈ s.y, 0 ≤ c ∧ c ≤ 65535
 xb : -9223372036854775808 ≤ s.x ∧ s.x ≤ 9223372036854775807
def nil : Sh := ⟨[], 0, []⟩
def same (s t : Sh) : Bool := t.x == s.x || t.h == s.h
end Go.Proofs.YtbjmadcbhkeenaaGreat.shr
namespace Go.Proofs.YtbjmadcbhkeenaaGreat.Fld
def pw (x : Int) : Nat → Int
 | 0 => 1
 | k + 1 => pw x k * x % 257
def pwL (x : Int) (n : Nat) : List Int := (List.range n).map (pw x)
theorem pwL_length (x : Int) (n : Nat) : (pwL x n).length = n := by simp [pwL]
end Go.Proofs.YtbjmadcbhkeenaaGreat.Fld
