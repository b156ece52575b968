/-
  Contracts of share.outside, eachFault and CheckShares: what is wrong with shares. Conditions: shares of the type's form, 2^40 at most.
-/
import Derived.Test.YtbljihhelladbaaShF
import Derived.Test.YtbljihhelladbaaLw
namespace Go.Proofs.Ytbljihhelladbaa.shr
set_option linter.unusedVariables false
open Go.RowKit Go.Maps Go.WideMaps Go.Proofs.Ytbljihhelladbaa.sh Go.Proofs.Ytbljihhelladbaa.mp
set_option linter.unusedSimpArgs false

theorem outside_any (m lo hi : Int) (w : World) : Calls Try.prog 86 #[.int .i64 m, .int .i64 lo, .int .i64 hi] w fun e w' => e = .returned (.bool (!inB m lo hi)) ∧ w = w' := by
  by_cases h1 : m < lo
  · go_enter Try.func86, Try.ntmps86
    go_wp2
    go_ret
    exact ⟨rv (rb (by simp [inB] <;> omega)), rfl⟩
  · by_cases h2 : hi < m
    · go_enter Try.func86, Try.ntmps86
      go_wp2
      go_ret
      exact ⟨rv (rb (by simp [inB] <;> omega)), rfl⟩
    · go_enter Try.func86, Try.ntmps86
      go_wp2
      go_ret
      exact ⟨rv (rb (by simp [inB] <;> omega)), rfl⟩

theorem lawI : Keyed Try.prog 3 := int_keyed Try.underlying3
theorem lawH : Keyed Try.prog 57 := Keyed.of_law (deep_law_laid (by kernel_rfl) (m := 2) (by omega) (of_decide_eq_true (by kernel_rfl)) (by kernel_rfl) (by kernel_rfl))
theorem zeroB (w : World) : (zeroValue 4).run Try.prog w = .ok (.bool false) w := by kernel_rfl
theorem arrID : ArrKey Try.prog 57 5 16 := ⟨Try.underlying57, by kernel_rfl, by kernel_rfl, by kernel_rfl⟩
theorem types1 : ∃ m, Try.prog.types.size = m + 1 := ⟨Try.prog.types.size - 1, by have : 0 < Try.prog.types.size := of_decide_eq_true (by kernel_rfl); omega⟩
theorem keyX (s : Sh) (hs : s.Ok) : keyOf Try.prog 3 (.int .i64 s.x) = some (.int .i64 s.x) := keyOf_int_mk Try.underlying3 (WalkArith.wf_i64 hs.xb)
theorem keyH (s : Sh) (hs : s.Ok) : keyOf Try.prog 57 (.agg (s.h.map (Value.int .u8)).toArray) = some (arrKey .u8 s.h) :=
  keyOf_ints arrID Try.underlying5 types1 s.h hs.hl fun a ha => WalkArith.wf_u8 (hs.hb a ha)
theorem keyH_inj {s t : Sh} (hs : s.Ok) (ht : t.Ok) (h : arrKey .u8 s.h = arrKey .u8 t.h) : s.h = t.h := by
  have h1 := keyH s hs
  have h2 := keyH t ht
  rw [← h] at h2
  have h3 := lawH.inj h1 h2
  simp only [Value.agg.injEq] at h3
  have h4 : s.h.map (Value.int .u8) = t.h.map (Value.int .u8) := by simpa using congrArg Array.toList h3
  exact (List.map_inj_right (f := Value.int .u8) (fun a b e => by cases e; rfl)).1 h4

/-- the keys of the first shares -/
def keysX (l : List Sh) : List Lit := l.map fun s => .int .i64 s.x
def keysH (l : List Sh) : List Lit := l.map fun s => arrKey .u8 s.h
theorem memX (l : List Sh) (s : Sh) : (l.any fun t => t.x == s.x) = true ↔ Lit.int .i64 s.x ∈ keysX l := by
  simp [keysX]
theorem memH (l : List Sh) (s : Sh) (hl : ∀ t ∈ l, t.Ok) (hs : s.Ok) : (l.any fun t => t.h == s.h) = true ↔ arrKey .u8 s.h ∈ keysH l := by
  simp only [keysH, List.any_eq_true, List.mem_map, beq_iff_eq]
  constructor
  · rintro ⟨t, h1, h2⟩
    exact ⟨t, h1, by rw [h2]⟩
  · rintro ⟨t, h1, h2⟩
    exact ⟨t, h1, keyH_inj (hl t h1) hs h2⟩
theorem any_same (l : List Sh) (s : Sh) : l.any (same s) = ((l.any fun t => t.x == s.x) || (l.any fun t => t.h == s.h)) := by
  induction l with
  | nil => rfl
  | cons t l ih =>
    rw [List.any_cons, List.any_cons, List.any_cons, ih]
    unfold same
    cases t.x == s.x <;> cases t.h == s.h <;> cases (l.any fun t => t.x == s.x) <;> simp
theorem keysX_succ (l : List Sh) (k : Nat) (hk : k < l.length) : keysX (l.take (k + 1)) = keysX (l.take k) ++ [.int .i64 (l.getD k nil).x] := by
  unfold keysX
  rw [List.take_succ_eq_append_getElem hk, List.map_append, getD_lt' l nil hk]; rfl
theorem keysH_succ (l : List Sh) (k : Nat) (hk : k < l.length) : keysH (l.take (k + 1)) = keysH (l.take k) ++ [arrKey .u8 (l.getD k nil).h] := by
  unfold keysH
  rw [List.take_succ_eq_append_getElem hk, List.map_append, getD_lt' l nil hk]; rfl

theorem aggS : Agg Try.prog 61 49 := Agg.str Try.underlying61 (by kernel_rfl)
theorem aggID : Agg Try.prog 57 16 := Agg.arr Try.underlying57 (by kernel_rfl)
theorem aggY : Agg Try.prog 59 32 := Agg.arr Try.underlying59 (by kernel_rfl)
/-- the share that a new variable holds -/
def sh0 : Sh := ⟨List.replicate 16 0, 0, List.replicate 32 0⟩
theorem sh0_zero : (Try.prog.info? 61).map (·.zero) = some (some (.agg sh0.cs.toArray)) := by kernel_rfl
theorem sh0_len : sh0.cs.length = 49 := rfl
theorem at_h {w : World} {t : TypeId} {g : Nat} {s : Sh} (hs : s.Ok) (h : BlkV t w g s.cs) : At w ⟨g, 0, none⟩ (s.h.map (Value.int .u8)) := by
  refine h.at 0 _ fun j u hu => ?_
  have hj : j < 16 := by have := (List.getElem?_eq_some_iff.1 hu).1; rw [List.length_map, hs.hl] at this; exact this
  rw [Nat.zero_add, cs_hi s hs j hj, ← hu, List.getElem?_map, List.getElem?_eq_getElem (by rw [hs.hl]; exact hj), getD_lt' s.h 0 (by rw [hs.hl]; exact hj)]
  rfl
theorem at_y {w : World} {t : TypeId} {g : Nat} {s : Sh} (hs : s.Ok) (h : BlkV t w g s.cs) : At w ⟨g, 17, none⟩ (s.y.map (Value.int .u16)) := by
  refine h.at 17 _ fun j u hu => ?_
  have hj : j < 32 := by have := (List.getElem?_eq_some_iff.1 hu).1; rw [List.length_map, hs.yl] at this; exact this
  rw [cs_yi s hs j hj, ← hu, List.getElem?_map, List.getElem?_eq_getElem (by rw [hs.yl]; exact hj), getD_lt' s.y 0 (by rw [hs.yl]; exact hj)]
  rfl
end Go.Proofs.Ytbljihhelladbaa.shr
