/-
  Contract of keyref2.SharesError. Conditions: shares of the type's form. Contracts of share.said and share.lies. Conditions: the polynomials through good shares; a share of the type's form at a place from 0 to 256.
-/
import Derived.Test.YtbjmadcbhkeenaaGreatCShG
import Derived.Test.YtbjmadcbhkeenaaGreatCEqA
import Derived.Test.YtbjmadcbhkeenaaGreatCStX
import Derived.Test.YtbjmadcbhkeenaaGreatCMem
import Derived.Test.YtbjmadcbhkeenaaGreatCShA
import Derived.Deep.RegionHeld3
import Derived.Deep.MidRow
set_option linter.unusedVariables false
set_option linter.unusedSimpArgs false
namespace Go.Proofs.YtbjmadcbhkeenaaGreat.shr
open Go.RowKit sh
theorem First_three (x y z W : Int) (w w0 : World) (hw : w0 = w.alloc (.cells #[.int .i64 x, .int .i64 y, .int .i64 z] 30)) (hW : Hid (W = firstE [x, y, z])) :
  Calls Tryz.prog 9 #[.slice (some ⟨w.heap.size, 0, none⟩) 3 3] w0 fun e w' => e = .returned (.int .i64 W) ∧ w0 = w' := by
 subst hw
 have h : RowI .i64 (w.alloc (.cells #[.int .i64 x, .int .i64 y, .int .i64 z] 30)) (some ⟨w.heap.size, 0, none⟩) [x, y, z] := by
  refine Or.inr ⟨_, _, rfl, by simp, fun i hi => ?_⟩
  rw [World.cell?_alloc_at _ _ _ _ (by simp)]
  match i, hi with
  | 0, _ => rfl
  | 1, _ => rfl
  | 2, _ => rfl
 refine (First_any _ 3 [x, y, z] _ h (by simp)).mono fun e w' ⟨h1, h2⟩ => ⟨?_, h2⟩
 rw [h1, hW.out]
end Go.Proofs.YtbjmadcbhkeenaaGreat.shr
namespace Go.Proofs.YtbjmadcbhkeenaaGreat.shr
open Go.RowKit sh Fld
theorem sizeSl : (Tryz.prog.info? 29).map (·.size) = some 1 := by kernel_rfl
theorem aggKey : Agg Tryz.prog 23 32 := Agg.arr Tryz.underlying23 (by kernel_rfl)
def zero32 : List Value := (List.replicate 32 0).map (Value.int .u8)
theorem zeroKey : (Tryz.prog.info? 23).map (·.zero) = some (some (.agg zero32.toArray)) := by kernel_rfl
end Go.Proofs.YtbjmadcbhkeenaaGreat.shr
