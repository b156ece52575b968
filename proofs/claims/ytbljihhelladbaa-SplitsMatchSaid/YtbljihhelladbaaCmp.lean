/-
  Octets in order: bytes.Compare and slices.Compare answer by the first octet that differs. Conditions: slices of octets.
-/
import Derived.Test.YtbljihhelladbaaShBC
import Derived.Test.YtbljihhelladbaaStX
import Derived.Lib.BytesEntry
import Derived.Laws.Externs
namespace Go.Proofs.Ytbljihhelladbaa.cm
open Go.RowKit Go.Proofs.Ytbljihhelladbaa.sh
set_option linter.unusedSimpArgs false
set_option linter.unusedVariables false
set_option pp.maxSteps 6000

def cmpL : List Int → List Int → Int
  | [], [] => 0
  | [], _ :: _ => -1
  | _ :: _, [] => 1
  | x :: xs, y :: ys => if x < y then -1 else if y < x then 1 else cmpL xs ys

theorem cmpL_refl : ∀ a, cmpL a a = 0
  | [] => rfl
  | x :: a => by unfold cmpL; rw [if_neg (by omega), if_neg (by omega)]; exact cmpL_refl a
theorem cmpL_anti : ∀ a b, cmpL b a = - cmpL a b
  | [], [] => rfl
  | [], _ :: _ => rfl
  | _ :: _, [] => rfl
  | x :: a, y :: b => by
    unfold cmpL
    by_cases h : x < y
    · rw [if_neg (by omega), if_pos h, if_pos h]; rfl
    · by_cases h2 : y < x
      · rw [if_pos h2, if_neg h, if_pos h2]
      · rw [if_neg h2, if_neg h, if_neg h, if_neg h2]; exact cmpL_anti a b
theorem cmpL_nc (z : Int) (c : List Int) : cmpL [] (z :: c) = -1 := rfl
theorem cmpL_cn (z : Int) (c : List Int) : cmpL (z :: c) [] = 1 := rfl
theorem cmpL_trans : ∀ a b c, cmpL a b < 0 → cmpL b c < 0 → cmpL a c < 0
  | [], b, [], h1, h2 => by
    cases b with
    | nil => exact absurd h1 (by decide)
    | cons y b => rw [cmpL_cn] at h2; omega
  | [], b, z :: c, h1, h2 => by rw [cmpL_nc]; decide
  | x :: a, [], c, h1, h2 => by rw [cmpL_cn] at h1; omega
  | x :: a, y :: b, [], h1, h2 => by rw [cmpL_cn] at h2; omega
  | x :: a, y :: b, z :: c, h1, h2 => by
    unfold cmpL at h1 h2 ⊢
    by_cases hxy : x < y
    · by_cases hyz : y < z
      · rw [if_pos (by omega)]; decide
      · rw [if_neg hyz] at h2
        by_cases hzy : z < y
        · rw [if_pos hzy] at h2; exact absurd h2 (by decide)
        · rw [if_pos (by omega)]; decide
    · rw [if_neg hxy] at h1
      by_cases hyx : y < x
      · rw [if_pos hyx] at h1; exact absurd h1 (by decide)
      · rw [if_neg hyx] at h1
        obtain rfl : x = y := by omega
        by_cases hyz : x < z
        · rw [if_pos hyz]; decide
        · rw [if_neg hyz] at h2 ⊢
          by_cases hzy : z < x
          · rw [if_pos hzy] at h2; exact absurd h2 (by decide)
          · rw [if_neg hzy] at h2 ⊢
            exact cmpL_trans a b c h1 h2
theorem cmpL_bd : ∀ a b, -1 ≤ cmpL a b ∧ cmpL a b ≤ 1
  | [], [] => by decide
  | [], _ :: _ => by rw [cmpL_nc]; decide
  | _ :: _, [] => by rw [cmpL_cn]; decide
  | x :: a, y :: b => by
    unfold cmpL
    split
    · decide
    · split
      · decide
      · exact cmpL_bd a b
theorem u8_lt {x y : Int} (hx : 0 ≤ x ∧ x ≤ 255) (hy : 0 ≤ y ∧ y ≤ 255) : (x.toNat.toUInt8 < y.toNat.toUInt8) ↔ x < y := by
  rw [UInt8.lt_iff_toNat_lt]
  simp only [Nat.toUInt8, UInt8.toNat_ofNat']
  omega
theorem cmpL_bytes : ∀ a b : List Int, (∀ c ∈ a, 0 ≤ c ∧ c ≤ 255) → (∀ c ∈ b, 0 ≤ c ∧ c ≤ 255) → Lib.compareBytes (Lib.bytesOf a) (Lib.bytesOf b) = cmpL a b
  | [], [], _, _ => rfl
  | [], _ :: _, _, _ => rfl
  | _ :: _, [], _, _ => rfl
  | x :: a, y :: b, ha, hb => by
    have hx := ha x (List.mem_cons_self ..)
    have hy := hb y (List.mem_cons_self ..)
    have ih := cmpL_bytes a b (fun c hc => ha c (List.mem_cons_of_mem _ hc)) (fun c hc => hb c (List.mem_cons_of_mem _ hc))
    unfold Lib.bytesOf at ih ⊢
    rw [List.map_cons, List.map_cons]
    unfold Lib.compareBytes cmpL
    rw [ih]
    simp only [u8_lt hx hy, u8_lt hy hx]

theorem run_compareSlice {P : Program} (w : World) (a b : Addr) (n c m d : Nat) (xs ys : List Int) (hn : xs.length = n) (hm : ys.length = m) (hx : ∀ j x, xs[j]? = some x → w.cell? (a.add j) = some (.int .u8 x)) (hy : ∀ j x, ys[j]? = some x → w.cell? (b.add j) = some (.int .u8 x)) :
    (Extern.BytealgCompare.compare #[.slice (some a) n c, .slice (some b) m d]).run P w = .ok (.int .i64 (Lib.compareBytes (Lib.bytesOf xs) (Lib.bytesOf ys))) w := by
  subst hn hm
  have h1 := Lib.run_loadBytesX (P := P) w xs a .empty hx
  have h2 := Lib.run_loadBytesX (P := P) w ys b .empty hy
  change Sem.run P (do pure (goInt (Extern.BytealgCompare.cmp (← Extern.Bytes.bytesOf (.slice (some a) xs.length c)) (← Extern.Bytes.bytesOf (.slice (some b) ys.length d))))) w = _
  simp only [Extern.Bytes.bytesOf, Sem.run_bind, Sem.run_pure, h1, h2, Result.andThen]
  rw [Lib.cmp_eq]
  simp
  rfl

set_option maxRecDepth 100000 in
theorem bytesCompare (a b : Addr) (n c m d : Nat) (xs ys : List Int) (w : World) (hn : xs.length = n) (hm : ys.length = m) (hx : At w a (xs.map (Value.int .u8))) (hy : At w b (ys.map (Value.int .u8))) (ox : ∀ c ∈ xs, 0 ≤ c ∧ c ≤ 255) (oy : ∀ c ∈ ys, 0 ≤ c ∧ c ≤ 255) (V : Int) (hV : cmpL xs ys = V) :
    Calls Try.prog 120 #[.slice (some a) n c, .slice (some b) m d] w fun e w' => e = .returned (.int .i64 V) ∧ w' = w := by
  have hc := run_compareSlice (P := Try.prog) w a b n c m d xs ys hn hm (fun j x hj => hx j _ (by simp [hj])) (fun j x hj => hy j _ (by simp [hj]))
  rw [cmpL_bytes xs ys ox oy, hV] at hc
  go_enter Try.func120, Try.ntmps120
  go_wp2
  rw [run_callFunc_extern Try.func167 (by kernel_rfl) (by kernel_rfl) (by kernel_rfl) (e := Extern.BytealgCompare.compare) (by kernel_rfl), hc]
  simp only [Result.andThen]
  rw [Oper.upon_value]
  go_wp2
  go_ret
  exact ⟨rfl, rfl⟩

theorem cmpByte (x y : Int) (w : World) (hx : 0 ≤ x ∧ x ≤ 255) (hy : 0 ≤ y ∧ y ≤ 255) : Calls Try.prog 168 #[.int .u8 x, .int .u8 y] w fun e w' => e = .returned (.int .i64 (if x < y then -1 else if y < x then 1 else 0)) ∧ w' = w := by
  have hnan : ∀ (x : Int) (w : World), Calls Try.prog 204 #[.int .u8 x] w fun e w' => e = .returned (.bool false) ∧ w' = w := fun x w => by
    go_enter Try.func204, Try.ntmps204
    go_wp2
    go_ret
    exact ⟨by simp, rfl⟩
  obtain ⟨r, Hr⟩ : ∃ r : Int, Hid (r = if x < y then -1 else if y < x then 1 else 0) := ⟨_, rfl⟩
  rw [← Hr.out]
  by_cases h1 : x < y
  · have HR : Hid (r = -1) := by show _ = _; rw [Hr.out, if_pos h1]
    go_enter Try.func168, Try.ntmps168
    go_wp2_with (go_at_call 204; refine (hnan _ _).mono ?_; rintro e w1 ⟨rfl, rfl⟩)
    go_ret
    exact ⟨rv (ri HR.out.symm), rfl⟩
  · by_cases h2 : y < x
    · have HR : Hid (r = 1) := by show _ = _; rw [Hr.out, if_neg h1, if_pos h2]
      go_enter Try.func168, Try.ntmps168
      go_wp2_with (go_at_call 204; refine (hnan _ _).mono ?_; rintro e w1 ⟨rfl, rfl⟩)
      go_ret
      exact ⟨rv (ri HR.out.symm), rfl⟩
    · have HR : Hid (r = 0) := by show _ = _; rw [Hr.out, if_neg h1, if_neg h2]
      go_enter Try.func168, Try.ntmps168
      go_wp2_with (go_at_call 204; refine (hnan _ _).mono ?_; rintro e w1 ⟨rfl, rfl⟩)
      go_ret
      exact ⟨rv (ri HR.out.symm), rfl⟩
theorem cmpL_step {xs ys : List Int} {k : Nat} (hx : k < xs.length) (hy : k < ys.length) : cmpL (xs.drop k) (ys.drop k) = if xs.getD k 0 < ys.getD k 0 then -1 else if ys.getD k 0 < xs.getD k 0 then 1 else cmpL (xs.drop (k + 1)) (ys.drop (k + 1)) := by
  rw [List.drop_eq_getElem_cons hx, List.drop_eq_getElem_cons hy, getD_lt' xs 0 hx, getD_lt' ys 0 hy]; rfl

set_option maxRecDepth 100000 in
theorem slicesCompare (a b : Addr) (n c d : Nat) (xs ys : List Int) (w : World) (hn : xs.length = n) (hm : ys.length = n) (hn2 : n ≤ 4611686018427387904) (hx : RowI .u8 w (some a) xs) (hy : RowI .u8 w (some b) ys) (ox : ∀ c ∈ xs, 0 ≤ c ∧ c ≤ 255) (oy : ∀ c ∈ ys, 0 ≤ c ∧ c ≤ 255) (V : Int) (hV : cmpL xs ys = V) :
    Calls Try.prog 121 #[.slice (some a) n c, .slice (some b) n d] w fun e w' => e = .returned (.int .i64 V) ∧ w' = w := by
  have OX := hid ox
  have OY := hid oy
  clear ox oy
  go_enter Try.func121, Try.ntmps121
  go_wp2
  go_loop [11] (fun i => ∃ k : Nat, k ≤ n ∧ i = .int .i64 k ∧ Hid (cmpL (xs.drop k) (ys.drop k) = V)) (fun i => n - (intOf i).toNat)
  case atStart => exact ⟨0, Nat.zero_le _, rfl, hV⟩
  case round =>
    obtain ⟨k, hk, rfl, HC⟩ := hrel
    by_cases h0 : k < n
    · obtain ⟨b1, o1, x, hax, hb1, HXX, hcx⟩ := hx.elem (i := k) (by omega)
      obtain ⟨b2, o2, y, hay, hb2, HYY, hcy⟩ := hy.elem (i := k) (by omega)
      cases hax; cases hay
      have hkI : (k : Int) < (n : Int) := by omega
      have hkI0 : (0 : Int) ≤ (k : Int) := by omega
      have hxo : 0 ≤ x ∧ x ≤ 255 := by rw [HXX.out, getD_lt' xs 0 (by omega)]; exact OX.out _ (List.getElem_mem _)
      have hyo : 0 ≤ y ∧ y ≤ 255 := by rw [HYY.out, getD_lt' ys 0 (by omega)]; exact OY.out _ (List.getElem_mem _)
      have HS := hid (cmpL_step (xs := xs) (ys := ys) (k := k) (by omega) (by omega))
      rw [HC.out, ← HXX.out, ← HYY.out] at HS
      obtain ⟨r, Hr⟩ : ∃ r : Int, Hid (r = if x < y then -1 else if y < x then 1 else 0) := ⟨_, rfl⟩
      have HCB := hid (fun w => cmpByte x y w hxo hyo)
      rw [← Hr.out] at HCB
      by_cases hr0 : r = 0
      · have hr' : (r != 0) = false := by simp [hr0]
        have HV : Hid (cmpL (xs.drop (k + 1)) (ys.drop (k + 1)) = V) := by
          show _ = _
          rw [HS.out]
          have := Hr.out
          rw [hr0] at this
          split at this
          · exact absurd this (by decide)
          · rename_i h1
            split at this
            · exact absurd this (by decide)
            · rename_i h2
              rw [if_neg h1, if_neg h2]
        clear hr0
        go_wp2_with (go_at_call 168; refine (HCB.out _).mono ?_; rintro e w1 ⟨rfl, rfl⟩)
        go_round
        case rel => exact ⟨k + 1, by omega, by go_num, HV⟩
        case measure => simp [intOf] <;> omega
      · have hr' : (r != 0) = true := by simp [hr0]
        have HV : Hid (r = V) := by
          show _ = _
          rw [HS.out, Hr.out]
          by_cases h1 : x < y
          · rw [if_pos h1, if_pos h1]
          · by_cases h2 : y < x
            · rw [if_neg h1, if_pos h2, if_neg h1, if_pos h2]
            · exact absurd (by rw [Hr.out, if_neg h1, if_neg h2]) hr0
        clear hr0
        go_wp2_with (go_at_call 168; refine (HCB.out _).mono ?_; rintro e w1 ⟨rfl, rfl⟩)
        go_ret
        exact ⟨rv (ri HV.out), rfl⟩
    · obtain rfl : k = n := by omega
      have HV0 : Hid (V = 0) := by show _ = _; rw [← HC.out, List.drop_eq_nil_of_le (by omega), List.drop_eq_nil_of_le (by omega)]; rfl
      go_wp2
      go_ret
      exact ⟨rv (ri HV0.out.symm), rfl⟩
end Go.Proofs.Ytbljihhelladbaa.cm
