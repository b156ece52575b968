/-
  Contracts of value, ValueOf, rangeFault, First, When, mod and through. Conditions: numbers from 0 to 256. Shares as the proofs read them, plain: what is wrong with shares, the polynomials through them, what lies on them, what fits. No program, no condition.
-/
import Derived.Test.YtdhipjoplkpgmaaGreatDoorHMem
import Derived.Test.YtdhipjoplkpgmaaGreatDoorHNum
import Derived.Deep.OwnRows
set_option linter.unusedSimpArgs false
set_option linter.unusedVariables false
namespace Go.Proofs.YtdhipjoplkpgmaaGreatDoor.sh
open Go.RowKit Fld
def firstE : List Int → Int
 | [] => 0
 | n :: l => if n = 0 then firstE l else n
end Go.Proofs.YtdhipjoplkpgmaaGreatDoor.sh
namespace Go.Proofs.YtdhipjoplkpgmaaGreatDoor.shr
open Go.RowKit Fld sh
structure Sh where
 h : List Int
 x : Int
 y : List Int
def Sh.cs (s : Sh) : List Value := s.h.map (Value.int .u8) ++ (Value.int .i64 s.x :: s.y.map (Value.int .u16))
structure Sh.Ok (s : Sh) : Prop where
 hl : s.h.length = 16
 yl : s.y.length = 32
 hb : ∀ c ∈ s.h, 0 ≤ c ∧ c ≤ 255
 yb : ∀ c ∈ s.y, 0 ≤ c ∧ c ≤ 65535
 xb : -9223372036854775808 ≤ s.x ∧ s.x ≤ 9223372036854775807
def nil : Sh := ⟨[], 0, []⟩
def same (s t : Sh) : Bool := t.x == s.x || t.h == s.h
def sec (s : List Int) : Sh := ⟨List.replicate 16 0, 0, s⟩
end Go.Proofs.YtdhipjoplkpgmaaGreatDoor.shr
