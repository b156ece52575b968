/-
  The walk of the law ChancesMatch: it returns true. Conditions: a key and a nonce of octets.
-/
import Derived.Test.YtbljihhelladbaaNmD
import Derived.Test.YtbljihhelladbaaShA
namespace Go.Proofs.Ytbljihhelladbaa.st
open Go.RowKit Go.Proofs.Ytbljihhelladbaa.sh
set_option pp.maxSteps 4000

theorem outside_in (m : Int) (w : World) (h : 0 ≤ m ∧ m ≤ 4096) : Calls Try.prog 86 #[.int .i64 m, .int .i64 0, .int .i64 4096] w fun e w' => e = .returned (.bool false) ∧ w = w' := by
  obtain ⟨h1, h2⟩ := h
  go_enter Try.func86, Try.ntmps86
  go_wp2
  go_ret
  exact ⟨rv (rb (by simp; omega)), rfl⟩
theorem outside_out (m : Int) (w : World) (h : ¬ (0 ≤ m ∧ m ≤ 4096)) : Calls Try.prog 86 #[.int .i64 m, .int .i64 0, .int .i64 4096] w fun e w' => e = .returned (.bool true) ∧ w = w' := by
  by_cases h1 : m < 0
  · go_enter Try.func86, Try.ntmps86
    go_wp2
    go_ret
    exact ⟨rv (rb (by simp <;> omega)), rfl⟩
  · have h2 : 4096 < m := by omega
    go_enter Try.func86, Try.ntmps86
    go_wp2
    go_ret
    exact ⟨rv (rb (by simp <;> omega)), rfl⟩

def KW (w : World) (K N : List Value) : World := (w.alloc (.cells K.toArray 23)).alloc (.cells N.toArray 25)

set_option maxRecDepth 100000 in
theorem Numbers_in (k n : List Int) (many : Nat) (w : World) (hk : k.length = 32) (hn : n.length = 16) (ok : Octs k) (on : Octs n) (hmany : many ≤ 4096) :
    Calls Try.prog 15 #[.agg (k.map (Value.int .u8)).toArray, .agg (n.map (Value.int .u8)).toArray, .int .i64 many] w fun e w' => ∃ ao cap, e = .returned (.tuple #[.slice ao (numsOf many k n).length cap, .int .i64 0]) ∧ RowI .i64 w' ao (numsOf many k n) ∧ Below w.heap.size w w' := by
  have hnm := fun w => numbersM k n many w hk hn ok on hmany
  obtain ⟨K, HK⟩ : ∃ K, Hid (K = k.map (Value.int .u8)) := ⟨_, rfl⟩
  obtain ⟨N, HN⟩ : ∃ N, Hid (N = n.map (Value.int .u8)) := ⟨_, rfl⟩
  rw [← HK.out, ← HN.out] at hnm
  have HNM := hid hnm
  rw [← HK.out, ← HN.out]
  have HKL : Hid (K.length = 32) := by show K.length = 32; rw [HK.out, List.length_map, hk]
  have HNL : Hid (N.length = 16) := by show N.length = 16; rw [HN.out, List.length_map, hn]
  clear hnm hk hn
  go_enter Try.func15, Try.ntmps15
  go_wp2_with (first | (go_at_call 86; refine (outside_in _ _ ⟨by omega, by omega⟩).mono ?_; rintro e w1 ⟨rfl, rfl⟩) | (refine wl_load rfl 23 _ rfl ⟨w.heap.size, 0, none⟩ rfl K (by rw [HKL.out]; exact agg32) ((BlkV.new _ w K rfl).alloc _).at0 ?_) | (refine wl_load rfl 25 _ rfl ⟨w.heap.size + 1, 0, none⟩ rfl N (by rw [HNL.out]; exact aggN) (BlkV.new _ _ N (by simp)).at0 ?_))
  refine (HNM.out _).mono ?_
  rintro e w2 ⟨ao, cap, rfl, hR, hb⟩
  go_wp2
  go_ret2
  exact ⟨_, _, rfl, hR, (((Below.refl w.heap.size w).alloc (Nat.le_refl _) _).alloc (by simp) _).trans (hb.mono (by simp; omega))⟩
end Go.Proofs.Ytbljihhelladbaa.st
