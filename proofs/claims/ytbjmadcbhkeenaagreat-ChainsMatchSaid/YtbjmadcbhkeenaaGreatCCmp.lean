/-
  Octets in order: bytes.Compare and slices.Compare answer by the first octet that differs. Conditions: slices of octets.
-/
import Derived.Test.YtbjmadcbhkeenaaGreatCShA
import Derived.Test.YtbjmadcbhkeenaaGreatCStX
import Derived.Lib.BytesEntry
import Derived.Laws.Externs
set_option maxRecDepth 100000
set_option linter.unusedSimpArgs false
set_option linter.unusedVariables false
namespace Go.Proofs.YtbjmadcbhkeenaaGreat.cm
open Go.RowKit sh
def cmpL : List Int → List Int → Int
 | [], [] => 0
 | [], _ :: _ => -1
 | _ :: _, [] => 1
 | x :: xs, y :: ys => if x < y then -1 else if y < x then 1 else cmpL xs ys
theorem cmpL_refl : ∀ a, cmpL a a = 0
 | [] => rfl
 | x :: a => by unfold cmpL; rw [if_neg (by omega), if_neg (by omega)]; exact cmpL_refl a
theorem cmpL_anti : ∀ a b, cmpL b a = - cmpL a b
 | [], [] => rfl
 | [], _ :: _ => rfl
 | _ :: _, [] => rfl
 | x :: a, y :: b => by
  unfold cmpL
  by_cases h : x < y
  ·rw [if_neg (by omega), if_pos h, if_pos h]; rfl
  ·by_cases h2 : y < x
   ·rw [if_pos h2, if_neg h, if_pos h2]
   ·rw [if_neg h2, if_neg h, if_neg h, if_neg h2]; exact cmpL_anti a b
theorem cmpL_nc (z : Int) (c : List Int) : cmpL [] (z :: c) = -1 := rfl
theorem cmpL_cn (z : Int) (c : List Int) : cmpL (z :: c) [] = 1 := rfl
theorem cmpL_trans : ∀ a b c, cmpL a b < 0 → cmpL b c < 0 → cmpL a c < 0
 | [], b, [], h1, h2 => by
  cases b with
  | nil => exact absurd h1 (by decide)
  | cons y b => rw [cmpL_cn] at h2; omega
 | [], b, z :: c, h1, h2 => by rw [cmpL_nc]; decide
 | x :: a, [], c, h1, h2 => by rw [cmpL_cn] at h1; omega
 | x :: a, y :: b, [], h1, h2 => by rw [cmpL_cn] at h2; omega
 | x :: a, y :: b, z :: c, h1, h2 => by
  unfold cmpL at h1 h2 ⊢
  by_cases hxy : x < y
  ·by_cases hyz : y < z
   ·rw [if_pos (by omega)]; decide
   ·rw [if_neg hyz] at h2
    by_cases hzy : z < y
    ·rw [if_pos hzy] at h2; exact absurd h2 (by decide)
    ·rw [if_pos (by omega)]; decide
  ·rw [if_neg hxy] at h1
   by_cases hyx : y < x
   ·rw [if_pos hyx] at h1; exact absurd h1 (by decide)
   ·rw [if_neg hyx] at h1
    obtain rfl : x = y := by omega
    by_cases hyz : x < z
    ·rw [if_pos hyz]; decide
    ·rw [if_neg hyz] at h2 ⊢
     by_cases hzy : z < x
     ·rw [if_pos hzy] at h2; exact absurd h2 (by decide)
     ·rw [if_neg hzy] at h2 ⊢
      exact cmpL_trans a b c h1 h2
theorem u8_lt {x y : Int} (hx : 0 ≤ x ∧ x ≤ 255) (hy : 0 ≤ y ∧ y ≤ 255) : (x.toNat.toUInt8 < y.toNat.toUInt8) ↔ x < y := by
 rw [UInt8.lt_iff_toNat_lt]
 simp only [Nat.toUInt8, UInt8.toNat_ofNat']
 omega
theorem cmpL_bytes : ∀ a b : List Int, (∀ c ∈ a, 0 ≤ c ∧ c ≤ 255) → (∀ c ∈ b, 0 ≤ c ∧ c ≤ 255) → Lib.compareBytes (Lib.bytesOf a) (Lib.bytesOf b) = cmpL a b
 | [], [], _, _ => rfl
 | [], _ :: _, _, _ => rfl
 | _ :: _, [], _, _ => rfl
 | x :: a, y :: b, ha, hb => by
  have hx := ha x (List.mem_cons_self ..)
  have hy := hb y (List.mem_cons_self ..)
  have ih := cmpL_bytes a b (fun c hc => ha c (List.mem_cons_of_mem _ hc)) (fun c hc => hb c (List.mem_cons_of_mem _ hc))
  unfold Lib.bytesOf at ih ⊢
  rw [List.map_cons, List.map_cons]
  unfold Lib.compareBytes cmpL
  rw [ih]
  simp only [u8_lt hx hy, u8_lt hy hx]
theorem run_compareSlice {P : Program} (w : World) (a b : Addr) (n c m d : Nat) (xs ys : List Int) (hn : xs.length = n) (hm : ys.length = m) (hx : ∀ j x, xs[j]? = some x → w.cell? (a.add j) = some (.int .u8 x)) (hy : ∀ j x, ys[j]? = some x → w.cell? (b.add j) = some (.int .u8 x)) :
  (Extern.BytealgCompare.compare #[.slice (some a) n c, .slice (some b) m d]).run P w = .ok (.int .i64 (Lib.compareBytes (Lib.bytesOf xs) (Lib.bytesOf ys))) w := by
 subst hn hm
 have h1 := Lib.run_loadBytesX (P := P) w xs a .empty hx
 have h2 := Lib.run_loadBytesX (P := P) w ys b .empty hy
 change Sem.run P (do pure (goInt (Extern.BytealgCompare.cmp (← Extern.Bytes.bytesOf (.slice (some a) xs.length c)) (← Extern.Bytes.bytesOf (.slice (some b) ys.length d))))) w = _
 simp only [Extern.Bytes.bytesOf, Sem.run_bind, Sem.run_pure, h1, h2, Result.andThen]
 rw [Lib.cmp_eq]
 simp
 rfl
theorem bytesCompare (a b : Addr) (n c m d : Nat) (xs ys : List Int) (w : World) (hn : xs.length = n) (hm : ys.length = m) (hx : At w a (xs.map (Value.int .u8))) (hy : At w b (ys.map (Value.int .u8))) (ox : ∀ c ∈ xs, 0 ≤ c ∧ c ≤ 255) (oy : ∀ c ∈ ys, 0 ≤ c ∧ c ≤ 255) (V : Int) (hV : cmpL xs ys = V) :
  Calls Tryz.prog 37 #[.slice (some a) n c, .slice (some b) m d] w fun e w' => e = .returned (.int .i64 V) ∧ w' = w := by
 have hc := run_compareSlice (P := Tryz.prog) w a b n c m d xs ys hn hm (fun j x hj => hx j _ (by simp [hj])) (fun j x hj => hy j _ (by simp [hj]))
 rw [cmpL_bytes xs ys ox oy, hV] at hc
 go_enter Tryz.func37, Tryz.ntmps37
 go_wp2
 rw [run_callFunc_extern Tryz.func63 (by kernel_rfl) (by kernel_rfl) (by kernel_rfl) (e := Extern.BytealgCompare.compare) (by kernel_rfl), hc]
 simp only [Result.andThen]
 rw [Oper.upon_value]
 go_wp2
 go_ret
 exact ⟨rfl, rfl⟩
end Go.Proofs.YtbjmadcbhkeenaaGreat.cm
