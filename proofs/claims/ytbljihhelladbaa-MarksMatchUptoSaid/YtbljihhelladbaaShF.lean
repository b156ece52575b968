/-
  Contract of share.badValues. No condition but the share's form.
-/
import Derived.Test.YtbljihhelladbaaShs
import Derived.Test.YtbljihhelladbaaSlInt
import Derived.Test.YtbljihhelladbaaStA
namespace Go.Proofs.Ytbljihhelladbaa.shr
set_option linter.unusedVariables false
open Go.RowKit
set_option linter.unusedSimpArgs false

theorem bad1 (n : Int) (w : World) (hn : 0 ≤ n ∧ n ≤ 65535) : Calls Try.prog 161 #[.int .u16 n] w fun e w' => e = .returned (.bool (decide (257 ≤ n))) ∧ w = w' := by
  by_cases h : 257 ≤ n
  · go_enter Try.func161, Try.ntmps161
    go_wp2
    go_ret
    exact ⟨rv (rb (by simp [h])), rfl⟩
  · go_enter Try.func161, Try.ntmps161
    go_wp2
    go_ret
    exact ⟨rv (rb (by simp [h])), rfl⟩

theorem bad2 (ao : Option Addr) (cap : Nat) (l : List Int) (w : World) (hr : RowI .u16 w ao l) (hn : l.length ≤ 4611686018427387904) (hl : ∀ c ∈ l, 0 ≤ c ∧ c ≤ 65535) :
    Calls Try.prog 201 #[.slice ao l.length cap, .func (.func 161) #[] #[]] w fun e w' => e = .returned (.int .i64 (slInt.findI (fun n => decide (257 ≤ n)) l 0)) ∧ w = w' := by
  go_enter Try.func201, Try.ntmps201
  go_wp2
  go_loop [5, 8] (fun _ i => ∃ k : Nat, k ≤ l.length ∧ i = .int .i64 k ∧ Hid (slInt.findI (fun n => decide (257 ≤ n)) (l.drop k) k = slInt.findI (fun n => decide (257 ≤ n)) l 0)) (fun _ i => l.length - (intOf i).toNat)
  case atStart => exact ⟨0, Nat.zero_le _, rfl, rfl⟩
  case round =>
    obtain ⟨k, hk, rfl, HA⟩ := hrel
    by_cases h0 : k < l.length
    · obtain ⟨b, off, c, rfl, hb, HC, hcell⟩ := hr.elem (i := k) h0
      have HD := slInt.findI_drop (fun n => decide (257 ≤ n)) l 0 k h0
      rw [← HC.out, HA.out] at HD
      replace HD := hid HD
      have hcb : 0 ≤ c ∧ c ≤ 65535 := by rw [HC.out, getD_lt' l 0 h0]; exact hl _ (List.getElem_mem h0)
      clear hl
      cases hc : decide (257 ≤ c)
      · have HN := hid hc
        have HF := hid (bad1 c w hcb)
        rw [hc] at HF
        clear hc
        go_wp2_with (go_at_call 161; refine HF.out.mono ?_; rintro e w1 ⟨rfl, rfl⟩)
        go_round
        case rel => exact ⟨k + 1, by omega, by go_num, by show _ = _; rw [HD.out, if_neg (by rw [HN.out]; simp)]⟩
        case measure => simp [intOf] <;> omega
      · have HN := hid hc
        have HF := hid (bad1 c w hcb)
        rw [hc] at HF
        clear hc
        go_wp2_with (go_at_call 161; refine HF.out.mono ?_; rintro e w1 ⟨rfl, rfl⟩)
        go_ret
        exact ⟨rv (ri (by rw [HD.out, if_pos HN.out])), rfl⟩
    · go_wp2
      go_ret
      exact ⟨rv (ri (by rw [← HA.out, List.drop_eq_nil_of_le (by omega)]; rfl)), rfl⟩

theorem bad3 (ao : Option Addr) (cap : Nat) (l : List Int) (w : World) (hr : RowI .u16 w ao l) (hn : l.length ≤ 4611686018427387904) (hl : ∀ c ∈ l, 0 ≤ c ∧ c ≤ 65535) :
    Calls Try.prog 160 #[.slice ao l.length cap, .func (.func 161) #[] #[]] w fun e w' => e = .returned (.bool (l.any fun n => decide (257 ≤ n))) ∧ w = w' := by
  have HF := hid (slInt.findI_any (fun n => decide (257 ≤ n)) l 0)
  have HI := hid (bad2 ao cap l w hr hn hl)
  clear hl
  go_enter Try.func160, Try.ntmps160
  go_wp2_with (go_at_call 201; refine HI.out.mono ?_; rintro e w1 ⟨rfl, rfl⟩)
  go_ret
  exact ⟨rv (rb HF.out), rfl⟩

theorem cs_y (s : Sh) (hs : s.Ok) : (s.cs.drop 17).take 32 = s.y.map (Value.int .u16) := by
  unfold Sh.cs
  rw [List.drop_append, show (s.h.map (Value.int .u8)).length = 16 by simp [hs.hl], List.drop_of_length_le (by simp [hs.hl])]
  simp [List.take_of_length_le, hs.yl]
theorem cs_h (s : Sh) (hs : s.Ok) : s.cs.take 16 = s.h.map (Value.int .u8) := by
  unfold Sh.cs
  rw [List.take_append, show (s.h.map (Value.int .u8)).length = 16 by simp [hs.hl], List.take_of_length_le (by simp [hs.hl])]
  simp
theorem cs_x (s : Sh) (hs : s.Ok) : s.cs[16]? = some (.int .i64 s.x) := by
  unfold Sh.cs
  rw [List.getElem?_append_right (by simp [hs.hl])]
  simp [hs.hl]
theorem cs_yi (s : Sh) (hs : s.Ok) (i : Nat) (hi : i < 32) : s.cs[17 + i]? = some (.int .u16 (s.y.getD i 0)) := by
  unfold Sh.cs
  rw [List.getElem?_append_right (by simp [hs.hl]; omega)]
  have e : 17 + i - (s.h.map (Value.int .u8)).length = i + 1 := by simp [hs.hl]; omega
  rw [e, List.getElem?_cons_succ, List.getElem?_map, List.getElem?_eq_getElem (by rw [hs.yl]; exact hi), getD_lt' s.y 0 (by rw [hs.yl]; exact hi)]
  rfl
theorem cs_hi (s : Sh) (hs : s.Ok) (i : Nat) (hi : i < 16) : s.cs[i]? = some (.int .u8 (s.h.getD i 0)) := by
  unfold Sh.cs
  rw [List.getElem?_append_left (by simp [hs.hl]; omega), List.getElem?_map, List.getElem?_eq_getElem (by rw [hs.hl]; exact hi), getD_lt' s.h 0 (by rw [hs.hl]; exact hi)]
  rfl
theorem cs_one (s : Sh) : ∀ u ∈ s.cs, u.oneCell' = true := by
  intro u hu
  unfold Sh.cs at hu
  simp only [List.mem_append, List.mem_cons, List.mem_map] at hu
  rcases hu with ⟨c, _, rfl⟩ | rfl | ⟨c, _, rfl⟩ <;> rfl

/-- the values of a share that lies in a block, as a row -/
theorem row_y {w : World} {t : TypeId} {g : Nat} (s : Sh) (hs : s.Ok) (h : BlkV t w g s.cs) : RowI .u16 w (some ⟨g, 17, none⟩) s.y := by
  refine Or.inr ⟨g, 17, rfl, h.lt, fun i hi => ?_⟩
  rw [h.cell, cs_yi s hs i (by rw [← hs.yl]; exact hi)]

theorem badValues_any (s : Sh) (hs : s.Ok) (w : World) :
    Calls Try.prog 111 #[.agg s.cs.toArray] w fun e w' => e = .returned (.bool (badY s)) ∧ Below w.heap.size w w' := by
  have hB : BlkV 61 (w.alloc (.cells s.cs.toArray 61)) w.heap.size s.cs := BlkV.new _ _ _ rfl
  have HR := hid (bad3 (some ⟨w.heap.size, 17, none⟩) 32 s.y _ (row_y s hs hB) (by rw [hs.yl]; decide) hs.yb)
  rw [hs.yl] at HR
  have HL : Hid (s.cs.length = 49) := hs.csl
  generalize s.cs = S at *
  go_enter Try.func111, Try.ntmps111
  go_wp2_with (go_at_call 160; refine HR.out.mono ?_; rintro e w1 ⟨rfl, rfl⟩)
  go_ret
  exact ⟨rfl, (Below.refl _ _).alloc (Nat.le_refl _) _⟩
end Go.Proofs.Ytbljihhelladbaa.shr
