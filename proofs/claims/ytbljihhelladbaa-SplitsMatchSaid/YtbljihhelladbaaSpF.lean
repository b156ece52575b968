/-
  The law SplitsMatch, walked for holders that are not right; Split as one contract. Conditions: holders of 16 octets, a secret and a seed of octets.
-/
import Derived.Test.YtbljihhelladbaaSpE
namespace Go.Proofs.Ytbljihhelladbaa.shr
open Go.RowKit Go.Proofs.Ytbljihhelladbaa.sh Go.Proofs.Ytbljihhelladbaa.Fld Go.Proofs.Ytbljihhelladbaa.cm
set_option linter.unusedSimpArgs false
set_option linter.unusedVariables false
set_option pp.maxSteps 6000

theorem headE_zero {need : Int} {l : List (List Int)} (h : headE need l = 0) : ∃ m : Nat, need = (m : Int) ∧ 1 ≤ m ∧ m ≤ l.length ∧ l.length ≤ 32 := by
  unfold headE at h
  cases h1 : inB need 1 32 with
  | false => rw [h1] at h; exact absurd h (by simp [firstE, whenE])
  | true =>
    rw [h1] at h
    by_cases h2 : (32 : Int) < (l.length : Int)
    · rw [decide_eq_true h2] at h; exact absurd h (by simp [firstE, whenE])
    · rw [decide_eq_false h2] at h
      by_cases h3 : (l.length : Int) < need
      · rw [decide_eq_true h3] at h; exact absurd h (by decide)
      · have h4 : 1 ≤ need ∧ need ≤ 32 := by simpa [inB] using h1
        exact ⟨need.toNat, by omega, by omega, by omega, by omega⟩
theorem headE_ne {need : Int} {l : List (List Int)} (h : headE need l ≠ 0) : (inB need 1 32 = false ∧ headE need l = 4) ∨ (inB need 1 32 = true ∧ 32 < l.length ∧ headE need l = 5) ∨ (inB need 1 32 = true ∧ l.length ≤ 32 ∧ (l.length : Int) < need ∧ headE need l = 18) := by
  unfold headE at h ⊢
  cases h1 : inB need 1 32 with
  | false => exact Or.inl ⟨rfl, rfl⟩
  | true =>
    rw [h1] at h
    by_cases h2 : (32 : Int) < (l.length : Int)
    · rw [decide_eq_true h2]; exact Or.inr (Or.inl ⟨rfl, by omega, rfl⟩)
    · rw [decide_eq_false h2] at h ⊢
      by_cases h3 : (l.length : Int) < need
      · rw [decide_eq_true h3]; exact Or.inr (Or.inr ⟨rfl, by omega, h3, rfl⟩)
      · rw [decide_eq_false h3] at h; exact absurd rfl h

section
variable (secret seed : List Int) (need : Int) (ao : Option Addr) (cap : Nat) (l : List (List Int)) (w : World) (hr : RowH w ao l) (hok : ∀ s ∈ l, IdOk s) (hc : secret.length = 32) (hco : st.Octs secret) (hs : seed.length = 32) (hso : st.Octs seed)
include hr hok hc hco hs hso
theorem Split_bad (E : Int) (hE : Hid (E = holdE need l)) (h0 : E ≠ 0) (SV KV : List Value) (hS : Hid (SV = secret.map (Value.int .u8))) (hK : Hid (KV = seed.map (Value.int .u8))) :
    Calls Try.prog 60 #[.agg SV.toArray, .int .i64 need, .slice ao l.length cap, .agg KV.toArray] w (SplitBad E w) := by
  rw [hS.out, hK.out]
  by_cases hh : headE need l = 0
  · obtain ⟨m, rfl, hm1, hml, hl32⟩ := headE_zero hh
    have hb : ordTo l l.length = false := by
      have := hE.out
      unfold holdE at this
      rw [if_pos hh] at this
      cases hb : ordTo l l.length with
      | true => rw [hb] at this; exact absurd this h0
      | false => rfl
    have hE9 : E = 9 := by rw [hE.out]; unfold holdE; rw [if_pos hh, hb]; rfl
    refine (Split_tail secret seed m ao cap l w hr hok hc hco hs hso hm1 hml hl32).mono fun e w' h => ?_
    rw [hE9]
    exact h.2 hb
  · have e : E = headE need l := by rw [hE.out]; unfold holdE; rw [if_neg hh]
    have := headE_ne hh
    rw [← e] at this
    exact Split_head secret seed need ao cap l w E this
theorem Split_good (m : Nat) (hneed : need = (m : Int)) (hE : holdE need l = 0) (SV KV : List Value) (hS : Hid (SV = secret.map (Value.int .u8))) (hK : Hid (KV = seed.map (Value.int .u8))) :
    Calls Try.prog 60 #[.agg SV.toArray, .int .i64 m, .slice ao l.length cap, .agg KV.toArray] w (SplitGood (polyS secret m seed) l w) := by
  rw [hS.out, hK.out]
  subst hneed
  have hh : headE (m : Int) l = 0 := by
    unfold holdE at hE
    split at hE
    · assumption
    · exact hE
  have hb : ordTo l l.length = true := by
    unfold holdE at hE
    rw [if_pos hh] at hE
    cases hb : ordTo l l.length with
    | true => rfl
    | false => rw [hb] at hE; exact absurd hE (by decide)
  obtain ⟨m', hmm, hm1, hml, hl32⟩ := headE_zero hh
  obtain rfl : m = m' := by omega
  exact (Split_tail secret seed m ao cap l w hr hok hc hco hs hso hm1 hml hl32).mono fun e w' h => h.1 hb
end

theorem HoldersError_v (need : Int) (ao : Option Addr) (cap : Nat) (l : List (List Int)) (w : World) (hr : RowH w ao l) (hok : ∀ s ∈ l, IdOk s) (hn : l.length ≤ 9223372036854775807) (E : Int) (h : Hid (E = holdE need l)) :
    Calls Try.prog 61 #[.int .i64 need, .slice ao l.length cap] w fun e w' => e = .returned (.int .i64 E) ∧ Below w.heap.size w w' := by
  rw [h.out]; exact HoldersError_any need ao cap l w hr hok hn

set_option maxRecDepth 100000 in
theorem splits_bad (secret : List Int) (need : Int) (ao : Option Addr) (cap : Nat) (l : List (List Int)) (seed : List Int) (ap : Option Addr) (capp : Nat) (p : List Int) (w : World) (hr : RowH w ao l) (hok : ∀ s ∈ l, IdOk s) (hn : l.length ≤ 9223372036854775807) (hc : secret.length = 32) (hco : st.Octs secret) (hs : seed.length = 32) (hso : st.Octs seed) (hE : holdE need l ≠ 0) :
    Calls Try.prog 9 #[.agg (secret.map (Value.int .u8)).toArray, .int .i64 need, .slice ao l.length cap, .agg (seed.map (Value.int .u8)).toArray, .slice ap p.length capp] w fun e w' => e = .returned (.bool true) ∧ Below w.heap.size w w' := by
  have HOK := hid hok
  clear hok
  obtain ⟨E, HE⟩ : ∃ E, Hid (E = holdE need l) := ⟨_, rfl⟩
  have hEn : E ≠ 0 := by rw [HE.out]; exact hE
  have hEb : (E != 0) = true := by simp [hEn]
  have HEN := hid hEn
  obtain ⟨SV, HSV⟩ : ∃ K, Hid (K = secret.map (Value.int .u8)) := ⟨_, rfl⟩
  have HSL : Hid (SV.length = 32) := by show _ = _; rw [HSV.out, List.length_map]; exact hc
  obtain ⟨KV, HKV⟩ : ∃ K, Hid (K = seed.map (Value.int .u8)) := ⟨_, rfl⟩
  have HKL : Hid (KV.length = 32) := by show _ = _; rw [HKV.out, List.length_map]; exact hs
  rw [← HSV.out, ← HKV.out]
  have hb0 : Below w.heap.size w ((w.alloc (.cells SV.toArray 23)).alloc (.cells KV.toArray 23)) := ((Below.refl _ _).alloc (Nat.le_refl _) _).alloc (by simp) _
  have hS0 : BlkV 23 ((w.alloc (.cells SV.toArray 23)).alloc (.cells KV.toArray 23)) w.heap.size SV := (BlkV.new _ _ _ rfl).alloc _
  have hK0 : BlkV 23 ((w.alloc (.cells SV.toArray 23)).alloc (.cells KV.toArray 23)) (w.heap.size + 1) KV := BlkV.new _ _ _ (by simp)
  have aS0 := hS0.at0
  have aK0 := hK0.at0
  clear hE hEn
  go_enter Try.func9, Try.ntmps9
  go_wp2_with (first | (refine wl_load rfl 23 _ rfl ⟨w.heap.size, 0, none⟩ rfl SV (by rw [HSL.out]; exact aggKey) aS0 ?_; clear aS0) | (refine wl_load rfl 23 _ rfl ⟨w.heap.size + 1, 0, none⟩ rfl KV (by rw [HKL.out]; exact aggKey) aK0 ?_; clear aK0) | (go_at_call 60; refine (Split_bad secret seed need ao cap l _ (hr.below hb0) HOK.out hc hco hs hso E HE HEN.out SV KV HSV HKV).mono ?_; rintro e w1 ⟨rfl, hb1⟩; have hbw1 := hb0.trans (hb1.mono hb0.size); clear hb0 hb1) | (go_at_call 61; refine (HoldersError_v need ao cap l _ (hr.below hbw1) HOK.out hn E HE).mono ?_; rintro e w2 ⟨rfl, hb2⟩; have hbw2 := hbw1.trans (hb2.mono hbw1.size); clear hbw1 hb2))
  refine (shares_any w2).mono ?_
  rintro e w3 ⟨rfl, hb3⟩
  have hbw3 := hbw2.trans (hb3.mono hbw2.size)
  go_wp2_with fail
  refine (shares_any w3).mono ?_
  rintro e w4 ⟨rfl, hb4⟩
  go_wp2
  go_ret
  exact ⟨rfl, hbw3.trans (hb4.mono hbw3.size)⟩
end Go.Proofs.Ytbljihhelladbaa.shr
