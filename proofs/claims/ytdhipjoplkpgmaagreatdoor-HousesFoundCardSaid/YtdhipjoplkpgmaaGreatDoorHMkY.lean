/-
  Shares read: Parse, ReadShare. Conditions: a slice of octets that lies in memory. Contract of mix.IsName. No condition but the string's size.
-/
import Derived.Test.YtdhipjoplkpgmaaGreatDoorHMkX
import Derived.Test.YtdhipjoplkpgmaaGreatDoorHEqS
import Derived.Test.YtdhipjoplkpgmaaGreatDoorHHld
import Derived.Deep.MidRow
set_option maxRecDepth 100000
set_option linter.unusedSimpArgs false
set_option linter.unusedVariables false
set_option maxHeartbeats 2000000
namespace Go.Proofs.YtdhipjoplkpgmaaGreatDoor.shr
open Go.RowKit sh st hs
theorem addr_add (b off j : Nat) : (⟨b, off, none⟩ : Addr).add j = ⟨b, off + j, none⟩ := by unfold Addr.add; split <;> simp_all
end Go.Proofs.YtdhipjoplkpgmaaGreatDoor.shr
namespace Go.Proofs.YtdhipjoplkpgmaaGreatDoor.wr
open Go.RowKit st hs shr
def nameC (c : Int) : Bool := (decide (97 ≤ c) && decide (c ≤ 122)) || (decide (48 ≤ c) && decide (c ≤ 57)) || c == 45 || c == 46 || c == 95
def isName (s : ByteArray) : Bool := s.data.toList.all (fun c => nameC (c.toNat : Int)) && (decide (0 < s.size) && decide (s.size ≤ 32))
theorem isName_bad {s : ByteArray} {k : Nat} (h : k < s.size) (hc : nameC ((s[k]).toNat : Int) = false) : isName s = false := by
 unfold isName
 have : s.data.toList.all (fun c => nameC (c.toNat : Int)) = false := by
  rw [List.all_eq_false]
  exact ⟨s[k], List.getElem_mem (by exact h), by rw [hc]; simp⟩
 rw [this]; rfl
theorem isName_all {s : ByteArray} (h : ∀ j (hj : j < s.size), nameC ((s[j]).toNat : Int) = true) : isName s = (decide (0 < s.size) && decide (s.size ≤ 32)) := by
 unfold isName
 have : s.data.toList.all (fun c => nameC (c.toNat : Int)) = true := by
  rw [List.all_eq_true]
  intro c hc
  obtain ⟨j, hj, rfl⟩ := List.getElem_of_mem hc
  exact h j hj
 rw [this]; rfl
theorem IsName_any (s : ByteArray) (w : World) (hs : s.size ≤ maxLen) :
  Calls Tryz.prog 185 #[.string s] w fun e w' => e = .returned (.bool (isName s)) ∧ w = w' := by
 unfold maxLen at hs
 go_enter Tryz.func185, Tryz.ntmps185
 go_wp2
 go_loop [3] (fun i => ∃ k : Nat, k ≤ s.size ∧ i = .int .i64 k ∧ Hid (∀ j (hj : j < s.size), j < k → nameC ((s[j]).toNat : Int) = true)) (fun i => s.size - (intOf i).toNat)
 case atStart => exact ⟨0, by omega, rfl, fun j _ h => absurd h (Nat.not_lt_zero _)⟩
 case round =>
  obtain ⟨k, hk, rfl, HA⟩ := hrel
  by_cases h0 : k < s.size
  ·have hkI : (k : Int) < (s.size : Int) := by omega
   have hkI0 : (0 : Int) ≤ (k : Int) := by omega
   have hnext : nameC ((s[k]).toNat : Int) = true → Hid (∀ j (hj : j < s.size), j < k + 1 → nameC ((s[j]).toNat : Int) = true) := fun h => hid fun j hj hjk => by
    by_cases e : j = k
    ·subst e; exact h
    ·exact HA.out j hj (by omega)
   have HNX := hid hnext
   clear hnext
   have hw1 : IntKind.i64.wrap ((k : Int) + 1) = (k : Int) + 1 := IntWalk.i64_in _ (by omega)
   have hc : (97 ≤ ((s[k]).toNat : Int) ∧ ((s[k]).toNat : Int) ≤ 122) ∨ (48 ≤ ((s[k]).toNat : Int) ∧ ((s[k]).toNat : Int) ≤ 57) ∨ ((s[k]).toNat : Int) = 45 ∨ ((s[k]).toNat : Int) = 46 ∨ ((s[k]).toNat : Int) = 95 ∨ (((s[k]).toNat : Int) < 48 ∧ ((s[k]).toNat : Int) ≠ 45 ∧ ((s[k]).toNat : Int) ≠ 46) ∨ (57 < ((s[k]).toNat : Int) ∧ ((s[k]).toNat : Int) < 97 ∧ ((s[k]).toNat : Int) ≠ 95) ∨ 122 < ((s[k]).toNat : Int) := by omega
   rcases hc with ⟨h1, h2⟩ | ⟨h1, h2⟩ | h1 | h1 | h1 | ⟨h1, h2, h3⟩ | ⟨h1, h2, h3⟩ | h1
   ·have hN : nameC ((s[k]).toNat : Int) = true := by unfold nameC; simp; omega
    have HN := hid hN
    clear hN
    have f1 : ¬ ((s[k]).toNat : Int) < 97 := by omega
    have f2 : ¬ 122 < ((s[k]).toNat : Int) := by omega
    go_wp2
    go_round
    case rel => exact ⟨k + 1, by omega, by go_num, HNX.out HN.out⟩
    case measure => simp [intOf] <;> omega
   ·have hN : nameC ((s[k]).toNat : Int) = true := by unfold nameC; simp; omega
    have HN := hid hN
    clear hN
    have f1 : ((s[k]).toNat : Int) < 97 := by omega
    have f0 : ¬ 97 ≤ ((s[k]).toNat : Int) := by omega
    have f2 : ¬ 57 < ((s[k]).toNat : Int) := by omega
    go_wp2
    go_round
    case rel => exact ⟨k + 1, by omega, by go_num, HNX.out HN.out⟩
    case measure => simp [intOf] <;> omega
   ·have hN : nameC ((s[k]).toNat : Int) = true := by unfold nameC; simp; omega
    have HN := hid hN
    clear hN
    have f0 : ¬ 97 ≤ ((s[k]).toNat : Int) := by omega
    have f2 : ¬ 48 ≤ ((s[k]).toNat : Int) := by omega
    go_wp2
    go_round
    case rel => exact ⟨k + 1, by omega, by go_num, HNX.out HN.out⟩
    case measure => simp [intOf] <;> omega
   ·have hN : nameC ((s[k]).toNat : Int) = true := by unfold nameC; simp; omega
    have HN := hid hN
    clear hN
    have f0 : ¬ 97 ≤ ((s[k]).toNat : Int) := by omega
    have f2 : ¬ 48 ≤ ((s[k]).toNat : Int) := by omega
    have f3 : ¬ ((s[k]).toNat : Int) = 45 := by omega
    go_wp2
    go_round
    case rel => exact ⟨k + 1, by omega, by go_num, HNX.out HN.out⟩
    case measure => simp [intOf] <;> omega
   ·have hN : nameC ((s[k]).toNat : Int) = true := by unfold nameC; simp; omega
    have HN := hid hN
    clear hN
    have f0 : ¬ 97 ≤ ((s[k]).toNat : Int) := by omega
    have f2 : 48 ≤ ((s[k]).toNat : Int) := by omega
    have f4 : ¬ ((s[k]).toNat : Int) ≤ 57 := by omega
    have f5 : ¬ ((s[k]).toNat : Int) = 45 := by omega
    have f6 : ¬ ((s[k]).toNat : Int) = 46 := by omega
    go_wp2
    go_round
    case rel => exact ⟨k + 1, by omega, by go_num, HNX.out HN.out⟩
    case measure => simp [intOf] <;> omega
   ·have hN : nameC ((s[k]).toNat : Int) = false := by unfold nameC; simp; omega
    have HN := hid (isName_bad h0 hN)
    clear hN
    have f0 : ¬ 97 ≤ ((s[k]).toNat : Int) := by omega
    have f1 : ¬ 48 ≤ ((s[k]).toNat : Int) := by omega
    have f2 : ¬ ((s[k]).toNat : Int) = 95 := by omega
    go_wp2
    go_ret
    exact ⟨rv (rb HN.out.symm), rfl⟩
    all_goals (exfalso; rename_i hx; simp at hx; omega)
   ·have hN : nameC ((s[k]).toNat : Int) = false := by unfold nameC; simp; omega
    have HN := hid (isName_bad h0 hN)
    clear hN
    have f0 : ¬ 97 ≤ ((s[k]).toNat : Int) := by omega
    have f1 : 48 ≤ ((s[k]).toNat : Int) := by omega
    have f4 : ¬ ((s[k]).toNat : Int) ≤ 57 := by omega
    have f5 : ¬ ((s[k]).toNat : Int) = 45 := by omega
    have f6 : ¬ ((s[k]).toNat : Int) = 46 := by omega
    go_wp2
    go_ret
    exact ⟨rv (rb HN.out.symm), rfl⟩
    all_goals (exfalso; rename_i hx; simp at hx; omega)
   ·have hN : nameC ((s[k]).toNat : Int) = false := by unfold nameC; simp; omega
    have HN := hid (isName_bad h0 hN)
    clear hN
    have f0 : 97 ≤ ((s[k]).toNat : Int) := by omega
    have f7 : ¬ ((s[k]).toNat : Int) ≤ 122 := by omega
    have f1 : 48 ≤ ((s[k]).toNat : Int) := by omega
    have f4 : ¬ ((s[k]).toNat : Int) ≤ 57 := by omega
    have f8 : 57 < ((s[k]).toNat : Int) := by omega
    have f5 : ¬ ((s[k]).toNat : Int) = 45 := by omega
    have f6 : ¬ ((s[k]).toNat : Int) = 46 := by omega
    have f9 : ¬ ((s[k]).toNat : Int) = 95 := by omega
    go_wp2
    go_ret
    exact ⟨rv (rb HN.out.symm), rfl⟩
    all_goals (exfalso; rename_i hx; simp at hx; omega)
  ·obtain rfl : k = s.size := by omega
   have hall := isName_all (fun j hj => HA.out j hj hj)
   have HALL := hid hall
   clear hall
   by_cases hz : s.size = 0
   ·have hs0 : s = ⟨#[]⟩ := by
     apply ByteArray.ext
     exact Array.eq_empty_of_size_eq_zero hz
    have HS0 := hid hs0
    have hl0 : s.toList = [] := by rw [hs0, toList_eq]
    have hf : isName s = false := by rw [HALL.out, hz]; rfl
    have HF := hid hf
    clear hs0 hf
    go_wp2
    go_ret
    exact ⟨rv (rb HF.out.symm), rfl⟩
   ·have hl0 : ¬ s.toList = [] := by
     rw [toList_eq]
     intro e
     have h1 : s.data.toList.length = 0 := by rw [e]; rfl
     exact hz h1
    by_cases h32 : s.size ≤ 32
    ·have hI : (s.size : Int) ≤ 32 := by omega
     have hf : isName s = true := by rw [HALL.out]; simp; omega
     have HF := hid hf
     clear hf
     have HE : Hid (s.toList.isEmpty = false) := by
      show _ = _
      cases e : s.toList with
      | nil => exact absurd e hl0
      | cons _ _ => rfl
     go_wp2
     go_ret
     exact ⟨rv (rb (by rw [HF.out, HE.out]; rfl)), rfl⟩
    ·have hI : ¬ (s.size : Int) ≤ 32 := by omega
     have hf : isName s = false := by rw [HALL.out]; simp; omega
     have HF := hid hf
     clear hf
     go_wp2
     go_ret
     exact ⟨rv (rb HF.out.symm), rfl⟩
end Go.Proofs.YtdhipjoplkpgmaaGreatDoor.wr
