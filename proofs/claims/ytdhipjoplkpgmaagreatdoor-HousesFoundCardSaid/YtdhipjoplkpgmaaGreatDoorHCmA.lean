/-
  Contract of keyref1.IsName: strings.ContainsFunc and strings.ContainsRune at the letters of names. Conditions: none on the string but its size.
-/
import Derived.Test.YtdhipjoplkpgmaaGreatDoorHMkY
import Derived.Lib.OthersKept
import Derived.Lib.TrimU
import Derived.Lib.Bytealg
import Derived.Laws.RangeString
import Derived.Laws.Runes
set_option maxRecDepth 100000
set_option linter.unusedSimpArgs false
set_option linter.unusedVariables false
set_option maxHeartbeats 1000000
namespace Go.Proofs.YtdhipjoplkpgmaaGreatDoor.wr
open Go.RowKit st hs shr sh
def KS : ByteArray := ⟨#[97, 98, 99, 100, 101, 102, 103, 104, 105, 106, 107, 108, 109, 110, 111, 112, 113, 114, 115, 116, 117, 118, 119, 120, 121, 122, 48, 49, 50, 51, 52, 53, 54, 55, 56, 57, 45, 46, 95]⟩
theorem notin_index {l : List UInt8} {c : UInt8} (h : ∀ b ∈ l, b ≠ c) : Lib.indexByte l c = -1 := by
 induction l with
 | nil => rfl
 | cons b l ih =>
  have h1 := h b (List.mem_cons_self ..)
  have h2 := ih fun x hx => h x (List.mem_cons_of_mem _ hx)
  unfold Lib.indexByte
  rw [if_neg (by simpa using h1), h2]
  rfl
theorem KS_small : ∀ b ∈ KS.data.toList, b.toNat < 128 := by decide
theorem KS_ascii : ∀ r : Fin 128, decide (0 ≤ Lib.indexByte KS.data.toList (UInt8.ofNat r.val)) = nameC (r.val : Int) := by decide +kernel
theorem KS_decode : ∀ p : Fin 39, Utf8.decode KS p.val = ((KS.get! p.val).toNat, 1) ∧ (KS.get! p.val).toNat < 128 := by decide +kernel
theorem nameC_small {r : Int} (h : nameC r = true) : 0 ≤ r ∧ r < 128 := by
 unfold nameC at h
 simp at h
 omega
theorem IndexByteS (s : ByteArray) (c : Int) (w : World) :
  Calls Tryz.prog 379 #[.string s, .int .u8 c] w fun e w' => e = .returned (.int .i64 (Lib.indexByte s.data.toList c.toNat.toUInt8)) ∧ w' = w := by
 go_enter Tryz.func379, Tryz.ntmps379
 go_wp2
 rw [run_callFunc_extern Tryz.func438 (by kernel_rfl) (by kernel_rfl) (by kernel_rfl) (e := Extern.BytealgIndexByte.indexByte) (by kernel_rfl), Lib.run_indexByteString]
 simp only [Result.andThen]
 rw [Oper.upon_value]
 go_wp2
 go_ret
 exact ⟨rfl, rfl⟩
theorem StrIndexByte (s : ByteArray) (c : Int) (w : World) :
  Calls Tryz.prog 296 #[.string s, .int .u8 c] w fun e w' => e = .returned (.int .i64 (Lib.indexByte s.data.toList c.toNat.toUInt8)) ∧ w' = w := by
 go_enter Tryz.func296, Tryz.ntmps296
 go_wp2_with (go_at_call 379; refine (IndexByteS _ _ _).mono ?_; rintro e w' ⟨rfl, rfl⟩)
 go_ret
 exact ⟨rfl, rfl⟩
theorem ValidRune_any (r : Int) (w : World) : Calls Tryz.prog 297 #[.int .i32 r] w fun e w' => e = .returned (.bool ((decide (0 ≤ r) && decide (r < 55296)) || (decide (57343 < r) && decide (r ≤ 1114111)))) ∧ w = w' := by
 by_cases h0 : 0 ≤ r
 ·by_cases h1 : r < 55296
  ·go_enter Tryz.func297, Tryz.ntmps297
   go_wp2
   go_ret
   exact ⟨by first | (simp [*]; done) | (simp [*]; omega), rfl⟩
  ·by_cases h2 : 57343 < r
   ·by_cases h3 : r ≤ 1114111
    ·go_enter Tryz.func297, Tryz.ntmps297
     go_wp2
     go_ret
     exact ⟨by first | (simp [*]; done) | (simp [*]; omega), rfl⟩
    ·have h3' : 1114111 < r := by omega
     go_enter Tryz.func297, Tryz.ntmps297
     go_wp2
     go_ret
     exact ⟨by first | (simp [*]; done) | (simp [*]; omega), rfl⟩
   ·go_enter Tryz.func297, Tryz.ntmps297
    go_wp2
    go_ret
    exact ⟨by first | (simp [*]; done) | (simp [*]; omega), rfl⟩
 ·have h2 : ¬ 57343 < r := by omega
  go_enter Tryz.func297, Tryz.ntmps297
  go_wp2
  go_ret
  exact ⟨by first | (simp [*]; done) | (simp [*]; omega), rfl⟩
theorem IndexRune_ascii (r : Nat) (w : World) (h1 : r < 128) :
  Calls Tryz.prog 188 #[.string KS, .int .i32 r] w fun e w' => e = .returned (.int .i64 (Lib.indexByte KS.data.toList r.toUInt8)) ∧ w' = w := by
 have h0 : (0 : Int) ≤ (r : Int) := by omega
 have h1I : (r : Int) < 128 := by omega
 have hw : IntKind.u8.wrap (r : Int) = (r : Int) := IntWalk.u8_in _ (by omega)
 obtain ⟨K, HK⟩ := hidE KS
 rw [← HK.out]
 go_enter Tryz.func188, Tryz.ntmps188
 go_wp2_with (go_at_call 296; refine (StrIndexByte _ _ _).mono ?_; rintro e w' ⟨rfl, rfl⟩)
 go_ret
 exact ⟨rfl, rfl⟩
theorem enc_two {r : Nat} (h : 128 ≤ r) (h2 : r < 2048) : Utf8.encode (r : Int) = ⟨#[UInt8.ofNat (192 + r / 64), UInt8.ofNat (128 + r % 64)]⟩ := by
 have hv : Utf8.valid (r : Int) = true := by unfold Utf8.valid; simp; omega
 unfold Utf8.encode
 simp only [hv, if_true, Int.toNat_natCast]
 rw [if_neg (by omega), if_pos (by omega)]
theorem enc_three {r : Nat} (h : 2048 ≤ r) (h2 : r < 65536) (hv : Utf8.valid (r : Int) = true) : Utf8.encode (r : Int) = ⟨#[UInt8.ofNat (224 + r / 4096), UInt8.ofNat (128 + r / 64 % 64), UInt8.ofNat (128 + r % 64)]⟩ := by
 unfold Utf8.encode
 simp only [hv, if_true, Int.toNat_natCast]
 rw [if_neg (by omega), if_neg (by omega), if_pos (by omega)]
theorem enc_four {r : Nat} (h : 65536 ≤ r) (h2 : r ≤ 1114111) : Utf8.encode (r : Int) = ⟨#[UInt8.ofNat (240 + r / 262144), UInt8.ofNat (128 + r / 4096 % 64), UInt8.ofNat (128 + r / 64 % 64), UInt8.ofNat (128 + r % 64)]⟩ := by
 have hv : Utf8.valid (r : Int) = true := by unfold Utf8.valid; simp; omega
 unfold Utf8.encode
 simp only [hv, if_true, Int.toNat_natCast]
 rw [if_neg (by omega), if_neg (by omega), if_neg (by omega)]
def NoRune (w : World) (e : Ending) (w' : World) : Prop := e = .returned (.int .i64 (-1)) ∧ Below w.heap.size w w'
end Go.Proofs.YtdhipjoplkpgmaaGreatDoor.wr
