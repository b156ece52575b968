/-
  Contract of keyref2.Envelope. Conditions: an envelope of the type's form.
-/
import Derived.Test.YtbljihhelladbaaTWrH
namespace Go.Proofs.Ytbljihhelladbaa.wr
open Go.RowKit Go.Proofs.Ytbljihhelladbaa.st Go.Proofs.Ytbljihhelladbaa.hs Go.Proofs.Ytbljihhelladbaa.shr Go.Proofs.Ytbljihhelladbaa.sh
set_option linter.unusedSimpArgs false
set_option linter.unusedVariables false
set_option pp.maxSteps 6000
def EnvPost (x : Env) (w : World) (e : Ending) (w' : World) : Prop :=
  Below w.heap.size w w' ∧ if errV x = 0 then ∃ ao c, e = .returned (.tuple #[.slice ao (sizeV x) c, .int .i64 0]) ∧ Mine w' w.heap.size 5 1 (.slice ao (sizeV x) c) (sizeV x) ((envL x).map (Value.int .u8)) else e = .returned (.tuple #[.slice none 0 0, .int .i64 (errV x)])
theorem hal16 : Try.prog.arrayLen 57 = 16 := by kernel_rfl
theorem hal25 : Try.prog.arrayLen 25 = 16 := by kernel_rfl
theorem hal32 : Try.prog.arrayLen 73 = 32 := by kernel_rfl
theorem hal22 : Try.prog.arrayLen 22 = 32 := by kernel_rfl
theorem halTag : Try.prog.arrayLen 105 = 16 := by kernel_rfl
end Go.Proofs.Ytbljihhelladbaa.wr
