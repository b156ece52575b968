/-
  keyref1.long; keyref1.Stream of a whole block. Conditions: as mix.Stream's.
-/
import Derived.Test.YtbljihhelladbaaStF
import Derived.Test.YtbljihhelladbaaStH
namespace Go.Proofs.Ytbljihhelladbaa.st
open Go.RowKit
set_option pp.maxSteps 4000

theorem infoU8 : (Try.prog.info? 5).map (fun i => (i.zero, i.size, i.bytes)) = some (some (.int .u8 0), 1, 1) := by kernel_rfl
theorem o8_at (q : Int) (i : Nat) (h : i < 8) : (o8 q).getD i 0 = q / 2 ^ (56 - 8 * i) % 256 := by
  match i, h with
  | 0, _ => rfl
  | 1, _ => rfl
  | 2, _ => rfl
  | 3, _ => rfl
  | 4, _ => rfl
  | 5, _ => rfl
  | 6, _ => rfl
  | 7, _ => simp [o8]
theorem o8_fill (q : Int) : fillTo (fun i => (o8 q).getD i 0) 8 8 = o8 q := rfl

set_option maxRecDepth 100000 in
set_option maxHeartbeats 1000000 in
theorem longR (q : Int) (w : World) :
    Calls Try.prog 153 #[.int .i64 q] w fun e w' => e = .returned (.slice (some ⟨w.heap.size, 0, none⟩) 8 8) ∧ BlkI .u8 5 w' w.heap.size (o8 q) ∧ Below w.heap.size w w' := by
  have hmk := run_make_row' (P := Try.prog) 69 5 (.int .u8 0) 1 Try.underlying69 infoU8 rfl .i64 .i64 8 (by omega) (by omega)
  have e8 : ((8 : Nat) : Int) = 8 := rfl
  simp only [e8] at hmk
  go_enter Try.func153, Try.ntmps153
  go_wp2_with fail
  go_loopw [8] (fun i wr => ∃ k : Nat, k ≤ 8 ∧ i = .int .i64 k ∧ BlkI .u8 5 wr w.heap.size (fillTo (fun i => (o8 q).getD i 0) 8 k) ∧ Below w.heap.size w wr) (fun i _ => 8 - (intOf i).toNat)
  case atStart =>
    refine ⟨0, by omega, rfl, ?_, (Below.refl _ _).alloc (Nat.le_refl _) _⟩
    rw [fillTo_zero]
    exact BlkI.made .u8 5 w 8
  case round =>
    obtain ⟨k, hk, rfl, hW, hb⟩ := hrel
    by_cases h0 : k < 8
    · have hf := hW.frozen k
      have hc := hW.cell (i := k) (by rw [fillTo_length _ _ _ (by omega)]; exact h0)
      have hST := hW.set k ((o8 q).getD k 0)
      have e := fillTo_set (fun i => (o8 q).getD i 0) 8 k h0
      rw [e, o8_at q k h0] at hST
      clear e
      go_wp2
      go_roundw
      case rel => exact ⟨k + 1, by omega, by go_num, hST, hb.setCell (Nat.le_refl _) _⟩
      case measure => simp [intOf] <;> omega
    · obtain rfl : k = 8 := by omega
      rw [o8_fill] at hW
      go_wp2
      go_ret
      exact ⟨rfl, hW, hb⟩
end Go.Proofs.Ytbljihhelladbaa.st
