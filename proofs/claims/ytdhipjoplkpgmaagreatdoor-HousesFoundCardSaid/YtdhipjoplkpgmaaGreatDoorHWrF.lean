/-
  Envelopes: the form, its cells, its octets; laws of the walk for arrays held against each other. Conditions: as each theorem says.
-/
import Derived.Test.YtdhipjoplkpgmaaGreatDoorHWrD
import Derived.Test.YtdhipjoplkpgmaaGreatDoorHMkZ
set_option linter.unusedSimpArgs false
set_option linter.unusedVariables false
namespace Go.Proofs.YtdhipjoplkpgmaaGreatDoor.wr
open Go.RowKit st hs shr sh
structure Env where
 v : Int
 e : Int
 b : List Int
 o : List Int
 n : List Int
 c : List Int
 g : List Int
 t : List Int
structure Env.Ok (x : Env) : Prop where
 vb : -9223372036854775808 ≤ x.v ∧ x.v ≤ 9223372036854775807
 eb : -9223372036854775808 ≤ x.e ∧ x.e ≤ 9223372036854775807
 bl : x.b.length = 16
 ol : x.o.length = 16
 nl : x.n.length = 16
 cl : x.c.length = 32
 gl : x.g.length = 32
 tl : x.t.length = 16
 bo : Octs x.b
 oo : Octs x.o
 no : Octs x.n
 co : Octs x.c
 go : Octs x.g
 tt : Octs x.t
def Env.cs (x : Env) : List Value := (.int .i64 x.v :: .int .i64 x.e :: (x.b ++ x.o ++ x.n ++ x.c ++ x.g ++ x.t).map (Value.int .u8))
def Env.octs (x : Env) : List Int := x.b ++ x.o ++ x.n ++ x.c ++ x.g ++ x.t
theorem at_row {w : World} {p off : Nat} {cs : List Value} (hl : p < w.heap.size) (h : At w ⟨p, off, none⟩ cs) : RowV w (some ⟨p, off, none⟩) cs :=
 Or.inr ⟨p, off, rfl, hl, fun j u hu => by
  have := h j u hu
  rwa [addr_add] at this⟩
theorem o4_length (n : Int) : (o4 n).length = 4 := rfl
theorem o4_octs (n : Int) : Octs (o4 n) := by
 intro c hc
 simp only [o4, List.mem_cons, List.not_mem_nil, or_false] at hc
 rcases hc with rfl | rfl | rfl | rfl <;> exact ⟨by omega, by omega⟩
theorem octs_app {l m : List Int} (h : Octs l) (h2 : Octs m) : Octs (l ++ m) := fun c hc => by
 rcases List.mem_append.1 hc with hc | hc
 ·exact h c hc
 ·exact h2 c hc
theorem run_eq_id (w : World) (s t : List Int) (hs : s.length = 16) (ht : t.length = 16) : (Op.equalIn 10000 25 (.agg (s.map (Value.int .u8)).toArray) (.agg (t.map (Value.int .u8)).toArray)).run Tryz.prog w = .ok (s == t) w :=
 run_equalIn_ints w 9998 25 5 16 .u8 Tryz.underlying25 Tryz.underlying5 size5' s t hs ht
end Go.Proofs.YtdhipjoplkpgmaaGreatDoor.wr
