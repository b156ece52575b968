/-
  HousesFound: plain: octets as digits, the text of a state's digest. No condition.
-/
import Derived.Test.YtdhipjoplkpgmaaGreatDoorHCmD
import Derived.Lib.Join
import Derived.Lib.ItoaLen
set_option linter.unusedSimpArgs false
set_option linter.unusedVariables false
namespace Go.Proofs.YtdhipjoplkpgmaaGreatDoor.hf
open Go.RowKit st hs wr
def hexD (n : Nat) : UInt8 := if n < 10 then UInt8.ofNat (48 + n) else UInt8.ofNat (87 + n)
def hexL (l : List Int) : List UInt8 := l.flatMap fun c => [hexD (c.toNat / 16), hexD (c.toNat % 16)]
theorem hexL_take {l : List Int} {k : Nat} (h : k < l.length) : hexL (l.take (k + 1)) = hexL (l.take k) ++ [hexD ((l[k]).toNat / 16), hexD ((l[k]).toNat % 16)] := by
 unfold hexL
 rw [List.take_succ_eq_append_getElem h, List.flatMap_append]
 simp
theorem hexL_length : ∀ l : List Int, (hexL l).length = 2 * l.length
 | [] => rfl
 | c :: l => by
  have ih := hexL_length l
  unfold hexL at ih ⊢
  rw [List.flatMap_cons, List.length_append, ih, List.length_cons]
  simp only [List.length_cons, List.length_nil]
  omega
def strL (l : List UInt8) : ByteArray := ⟨l.toArray⟩
theorem strL_app (a b : List UInt8) : strL a ++ strL b = strL (a ++ b) := by
 unfold strL
 apply ByteArray.ext
 simp
theorem strL_size (a : List UInt8) : (strL a).size = a.length := by unfold strL; simp [ByteArray.size]
theorem strL_list (a : List UInt8) : (strL a).data.toList = a := by unfold strL; simp
def lineL (ws : List (List UInt8)) : List UInt8 := Lib.join ws [32] ++ [10]
def wCount : List UInt8 := [99, 111, 117, 110, 116]
def wTime : List UInt8 := [116, 105, 109, 101]
def wLast : List UInt8 := [108, 97, 115, 116]
def wFounder : List UInt8 := [102, 111, 117, 110, 100, 101, 114]
def wMember : List UInt8 := [109, 101, 109, 98, 101, 114]
def dig1 (t : Int) (S : List Int) : List (List UInt8) := [wCount, [49], wTime, Lib.itoa t, wLast, hexL S]
def dig2 (f : List Int) : List (List UInt8) := [wFounder, hexL f]
def dig3 (f : List Int) (rs : List ByteArray) : List (List UInt8) := wMember :: hexL f :: rs.map (·.data.toList)
def digL (t : Int) (S f : List Int) (rs : List ByteArray) : List UInt8 := lineL (dig1 t S) ++ (lineL (dig2 f) ++ lineL (dig3 f rs))
theorem join_app2 (x y sep : List UInt8) : Lib.join [x, y] sep = x ++ (sep ++ y) := by rw [Lib.join_cons]; simp [Lib.joinTail]
theorem dig1_eq (t : Int) (S : List Int) : lineL (dig1 t S) = (((((wCount ++ [32]) ++ [49]) ++ ([32] ++ (wTime ++ [32]))) ++ Lib.itoa t) ++ ([32] ++ (wLast ++ [32]))) ++ hexL S ++ [10] := by
 unfold lineL dig1
 rw [Lib.join_cons]
 simp [Lib.joinTail]
theorem dig2_eq (f : List Int) : lineL (dig2 f) = ((wFounder ++ [32]) ++ hexL f) ++ [10] := by
 unfold lineL dig2
 rw [join_app2]
 simp
theorem lens_cons (x : List UInt8) (l : List (List UInt8)) : Lib.lens (x :: l) = x.length + Lib.lens l := rfl
theorem lens_le : ∀ {l : List (List UInt8)} {m : Nat}, (∀ x ∈ l, x.length ≤ m) → Lib.lens l ≤ m * l.length
 | [], _, _ => by simp [Lib.lens]
 | x :: l, m, h => by
  have ih := lens_le (l := l) (m := m) fun y hy => h y (List.mem_cons_of_mem _ hy)
  have hx := h x (List.mem_cons_self ..)
  rw [lens_cons, List.length_cons, Nat.mul_add]
  omega
theorem line_le {x : List UInt8} {r : List (List UInt8)} {m k : Nat} (h : ∀ y ∈ x :: r, y.length ≤ m) (hk : r.length ≤ k) : (lineL (x :: r)).length ≤ k + m * (k + 1) + 1 := by
 unfold lineL
 rw [List.length_append, Lib.join_length]
 have h1 := lens_le h
 rw [List.length_cons] at h1
 have h2 : m * (r.length + 1) ≤ m * (k + 1) := Nat.mul_le_mul_left _ (by omega)
 simp only [List.length_cons, List.length_nil]
 omega
theorem dig3_le {f : List Int} {rs : List ByteArray} (hf : f.length = 16) (h : bodyE rs = 0) : ∀ y ∈ dig3 f rs, y.length ≤ 64 := by
 obtain ⟨h1, h2⟩ := bodyE_small h
 intro y hy
 unfold dig3 at hy
 rcases List.mem_cons.1 hy with rfl | hy
 ·decide
 rcases List.mem_cons.1 hy with rfl | hy
 ·rw [hexL_length, hf]; decide
 ·obtain ⟨s, hs, rfl⟩ := List.mem_map.1 hy
  have := h2 s hs
  have e : s.data.toList.length = s.size := Array.length_toList
  omega
theorem digL_le {t : Int} {S f : List Int} {rs : List ByteArray} (ht : 0 ≤ t ∧ t ≤ 9223372036854775807) (hS : S.length = 32) (hf : f.length = 16) (h : bodyE rs = 0) :
  (lineL (dig1 t S)).length ≤ 1000 ∧ (lineL (dig2 f)).length ≤ 1000 ∧ (lineL (dig3 f rs)).length ≤ 2000 := by
 have hi := Lib.itoa_length_le t (by omega) (by omega)
 refine ⟨?_, ?_, ?_⟩
 ·refine Nat.le_trans (line_le (m := 64) (k := 5) ?_ (Nat.le_refl 5)) (by decide)
  intro y hy
  simp only [List.mem_cons, List.not_mem_nil, or_false] at hy
  rcases hy with rfl | rfl | rfl | rfl | rfl | rfl
  ·decide
  ·decide
  ·decide
  ·omega
  ·decide
  ·rw [hexL_length, hS]; decide
 ·refine Nat.le_trans (line_le (m := 64) (k := 1) ?_ (Nat.le_refl 1)) (by decide)
  intro y hy
  simp only [List.mem_cons, List.not_mem_nil, or_false] at hy
  rcases hy with rfl | rfl
  ·decide
  ·rw [hexL_length, hf]; decide
 ·have h1 := (bodyE_small h).1
  refine Nat.le_trans (line_le (m := 64) (k := 17) (dig3_le hf h) (by simp only [List.length_cons, List.length_map]; omega)) (by decide)
end Go.Proofs.YtdhipjoplkpgmaaGreatDoor.hf
