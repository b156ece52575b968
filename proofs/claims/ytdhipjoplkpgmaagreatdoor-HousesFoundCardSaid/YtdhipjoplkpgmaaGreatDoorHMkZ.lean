/-
  Sums in slices, Check, Marks, plain facts. Conditions: as each theorem says.
-/
import Derived.Test.YtdhipjoplkpgmaaGreatDoorHMkY
import Derived.Test.YtdhipjoplkpgmaaGreatDoorHEqA
import Derived.Test.YtdhipjoplkpgmaaGreatDoorHStA
import Derived.Test.YtdhipjoplkpgmaaGreatDoorHSmA
import Derived.Test.YtdhipjoplkpgmaaGreatDoorHHld
import Derived.StillTailTactics
set_option linter.unusedSimpArgs false
set_option linter.unusedVariables false
namespace Go.Proofs.YtdhipjoplkpgmaaGreatDoor.shr
open Go.RowKit sh st hs Go.ChangeShapes Go.WideShapes Go.ChangeAt
def SumLOk (h : List Int) : Prop := h.length = 32 ∧ ∀ c ∈ h, 0 ≤ c ∧ c ≤ 255
def RowM (w : World) (ao : Option Addr) (l : List (List Int)) : Prop :=
 l = [] ∨ ∃ b off, ao = some ⟨b, off, none⟩ ∧ b < w.heap.size ∧ ∀ i, i < l.length → At w ⟨b, off + i * 32, none⟩ ((l.getD i []).map (Value.int .u8))
structure SumsAt {H : Type} (W : World) (v : Value) (d : DataW H) (l : List (List Int)) (ao : Option Addr) (cap : Nat) : Prop where
 val : v = .slice ao l.length cap
 le : l.length ≤ cap
 row : RowM W ao l
 none : ao = none → cap = 0 ∧ l.length = 0
 ok : ∀ s ∈ l, SumLOk s
 len : cap ≤ maxLen
theorem size5' : ∀ w, (sizeOf 5).run Tryz.prog w = .ok 1 w := fun w => by kernel_rfl
end Go.Proofs.YtdhipjoplkpgmaaGreatDoor.shr
namespace Go.Proofs.YtdhipjoplkpgmaaGreatDoor.shr
open Go.RowKit sh st hs Go.ChangeShapes Go.WideShapes Go.ChangeAt
theorem ptGrown {w w' : World} {x : Pt} {row : Option Nat} (h : x.Ok w) (hg : w.grownBy w' row) (hne : ∀ b, x.a = some b → row ≠ some b.block) : x.Ok w' :=
 ⟨(RowV.kept h.row.v hg hne).i, h.len, h.cap, h.oct, fun b e => Nat.lt_of_lt_of_le (h.lt b e) hg.size⟩
structure PartsAt (w : World) (base : Nat) (v : Value) (ps : List Pt) : Prop where
 own : w.ownsRow base 61 1 v ps.length (ps.map Pt.v)
 ok : ∀ x ∈ ps, x.Ok w ∧ ∃ g, x.a = some ⟨g, 0, none⟩ ∧ v.ownBlock ≠ some g
theorem owns_up {w w' : World} {base : Nat} {e : TypeId} {size n : Nat} {v : Value} {xs : List Value} (h : w.ownsRow base e size v n xs) (hb : Below w.heap.size w w') : w'.ownsRow base e size v n xs :=
 h.kept (grown_below hb : w.grownBy w' none) (by by_cases e : v.ownBlock = none; exact Or.inl e; exact Or.inr e)
end Go.Proofs.YtdhipjoplkpgmaaGreatDoor.shr
namespace Go.Proofs.YtdhipjoplkpgmaaGreatDoor.shr
open Go.RowKit sh st hs
theorem yieldsIf_eqM {P : Program} {ops : Array Oper} {S : World → Prop} {op : Oper} {a : Act} (hw : Region.wanted op (yielded ops a.tmps) = true) (ty ty2 : TypeId) (x y : Operand) (ho : op.op = .binOp .eql ty x y ty2)
  (A B : Array Value) (hx : a.eval x = .agg A) (hy : a.eval y = .agg B) (b : Bool) (he : ∀ w, (Op.equalIn 10000 ty (.agg A) (.agg B)).run P w = .ok b w) (hm : P.eqGuardType P.depth ty = false) : YieldsIf P ops S op (.bool b) a :=
 .inl ⟨hw, fun w hw' => by
  unfold execOp
  simp [ho, hx, hy, run_eqGuard_agg, run_eql_struct, hm, he w, Result.andThen]⟩
end Go.Proofs.YtdhipjoplkpgmaaGreatDoor.shr
