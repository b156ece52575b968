/-
  Shares as octets: Print, ShareOctets, Mark, MarkOf, strings. Conditions: as each theorem says. Shares read: Parse, ReadShare. Conditions: a slice of octets that lies in memory. Contracts of mix.NameOf and mix.TagOf. Conditions: a key of octets, a text of octets. Contract of mix.Derive where the label is a name. Conditions: a key of octets, a label of octets that is a name, an epoch in its bounds. The law SharesMatch, walked: it returns true. Conditions: shares of the type's form, a secret of octets. Sums in slices, Check, Marks, plain facts. Conditions: as each theorem says. Contract of mix.Stream from 0 on. Conditions: a key and a nonce of octets, at most 2^20 octets. Envelopes: the form, its cells, its octets; laws of the walk for arrays held against each other. Conditions: as each theorem says. Contracts of package slices at []byte. Conditions: the bounds that append asks. mix.PutNumber; laws for conversions of constants and appends in regions that draw their order. Conditions: as each theorem says. Contract of share.mended: the rows of the matrix are laid out. Conditions: numbers from 0 to 256, at most 64 unknowns.
-/
import Derived.Test.YtbjmadcbhkeenaaSHld
import Derived.Test.YtbjmadcbhkeenaaSShF
import Derived.Test.YtbjmadcbhkeenaaSEqA
import Derived.Test.YtbjmadcbhkeenaaSShM
import Derived.Test.YtbjmadcbhkeenaaSShQ
import Derived.Test.YtbjmadcbhkeenaaSShr
import Derived.Test.YtbjmadcbhkeenaaSMem
import Derived.Lib.SlBytesConst
import Derived.ArgAppend
import Derived.Laws.BytesArg
import Derived.Deep.MidRow
import Derived.Lib.ConvBytes
import Derived.StillTailTactics
import Derived.Lib.SliceRun
import Derived.Lib.AppendZeros
import Derived.Lib.UnsafeStr
import Derived.Great.BuildSlice
/- Contract of share.Print. Conditions: a share of the type's form. -/
namespace Go.Proofs.Ytbjmadcbhkeenaa.shr
open Go.RowKit Go.Proofs.Ytbjmadcbhkeenaa.sh Go.Proofs.Ytbjmadcbhkeenaa.st Go.Proofs.Ytbjmadcbhkeenaa.hs
set_option linter.unusedSimpArgs false
set_option linter.unusedVariables false
set_option pp.maxSteps 6000
/-- two octets of a number; a share's octets -/
def o2 (n : Int) : List Int := [n / 256 % 256, n % 256]
end Go.Proofs.Ytbjmadcbhkeenaa.shr
/- Contracts of keyref2.Octets and NumberOf. Conditions: at most eight octets written; at most six read. -/
namespace Go.Proofs.Ytbjmadcbhkeenaa.shr
open Go.RowKit Go.Proofs.Ytbjmadcbhkeenaa.sh Go.Proofs.Ytbjmadcbhkeenaa.st Go.Proofs.Ytbjmadcbhkeenaa.hs
set_option linter.unusedSimpArgs false
set_option linter.unusedVariables false
set_option pp.maxSteps 6000
end Go.Proofs.Ytbjmadcbhkeenaa.shr
/- Contracts of share.Print and keyref2.ShareOctets. Conditions: a share of the type's form. -/
namespace Go.Proofs.Ytbjmadcbhkeenaa.shr
open Go.RowKit Go.Proofs.Ytbjmadcbhkeenaa.sh Go.Proofs.Ytbjmadcbhkeenaa.st Go.Proofs.Ytbjmadcbhkeenaa.hs
set_option linter.unusedSimpArgs false
set_option linter.unusedVariables false
set_option pp.maxSteps 6000
end Go.Proofs.Ytbjmadcbhkeenaa.shr
/- Contracts of share.Mark and keyref2.MarkOf. Conditions: a share of the type's form. -/
namespace Go.Proofs.Ytbjmadcbhkeenaa.shr
open Go.RowKit Go.Proofs.Ytbjmadcbhkeenaa.sh Go.Proofs.Ytbjmadcbhkeenaa.st Go.Proofs.Ytbjmadcbhkeenaa.hs
set_option linter.unusedSimpArgs false
set_option linter.unusedVariables false
set_option pp.maxSteps 6000
end Go.Proofs.Ytbjmadcbhkeenaa.shr
/- Octets as a string; contract of bytes.Equal. Conditions: slices of octets that lie in memory. -/
namespace Go.Proofs.Ytbjmadcbhkeenaa.shr
open Go.RowKit Go.Proofs.Ytbjmadcbhkeenaa.sh Go.Proofs.Ytbjmadcbhkeenaa.st Go.Proofs.Ytbjmadcbhkeenaa.hs
set_option linter.unusedSimpArgs false
set_option linter.unusedVariables false
set_option pp.maxSteps 6000
theorem run_convStr (w : World) (ao : Option Addr) (n cap : Nat) (l : List Int) (hn : n = l.length) (hr : RowI .u8 w ao l) : (convert 51 9 (.slice ao n cap)).run Try.prog w = .ok (.string (strOfNums l)) w := by
  rcases hr with h | ⟨b, off, rfl, hb, hc⟩
  · subst h
    obtain rfl : n = 0 := hn
    rw [run_convert_bytes_string w 51 9 5 ao 0 cap Try.underlying51 Try.underlying5 Try.underlying9]
    cases ao with
    | none => simp [Conv.bytesToString, strOfNums]; rfl
    | some a =>
      rw [run_bytesToString w a 0 cap [] (by simp [loadCells, loadCellsFrom])]
      rfl
  · exact run_convert_bytes_arg w 51 5 Try.underlying51 Try.underlying5 b off n cap l hn.symm (fun i hi => hc i (by omega)) 9 Try.underlying9
end Go.Proofs.Ytbjmadcbhkeenaa.shr
/- Contract of share.Parse. Conditions: a slice of octets that lies in memory. -/
namespace Go.Proofs.Ytbjmadcbhkeenaa.shr
open Go.RowKit Go.Proofs.Ytbjmadcbhkeenaa.sh Go.Proofs.Ytbjmadcbhkeenaa.st Go.Proofs.Ytbjmadcbhkeenaa.hs
set_option linter.unusedSimpArgs false
set_option linter.unusedVariables false
set_option pp.maxSteps 6000
theorem sh0_ok : sh0.Ok := ⟨rfl, rfl, by intro c hc; rw [(List.mem_replicate.1 hc).2]; decide, by intro c hc; rw [(List.mem_replicate.1 hc).2]; decide, by decide⟩
end Go.Proofs.Ytbjmadcbhkeenaa.shr
/- Contract of keyref2.ReadShare. Conditions: a slice of octets that lies in memory. -/
namespace Go.Proofs.Ytbjmadcbhkeenaa.shr
open Go.RowKit Go.Proofs.Ytbjmadcbhkeenaa.sh Go.Proofs.Ytbjmadcbhkeenaa.st Go.Proofs.Ytbjmadcbhkeenaa.hs
set_option linter.unusedSimpArgs false
set_option linter.unusedVariables false
set_option pp.maxSteps 6000
theorem addr_add (b off j : Nat) : (⟨b, off, none⟩ : Addr).add j = ⟨b, off + j, none⟩ := by unfold Addr.add; split <;> simp_all
end Go.Proofs.Ytbjmadcbhkeenaa.shr
namespace Go.Proofs.Ytbjmadcbhkeenaa.wr
open Go.RowKit Go.Proofs.Ytbjmadcbhkeenaa.st Go.Proofs.Ytbjmadcbhkeenaa.hs Go.Proofs.Ytbjmadcbhkeenaa.shr
set_option linter.unusedSimpArgs false
set_option linter.unusedVariables false
set_option pp.maxSteps 6000
theorem zeroID : (Try.prog.info? 28).map (·.zero) = some (some (.agg ((List.replicate 16 (0 : Int)).map (Value.int .u8)).toArray)) := by kernel_rfl
end Go.Proofs.Ytbjmadcbhkeenaa.wr
namespace Go.Proofs.Ytbjmadcbhkeenaa.wr
open Go.RowKit Go.Proofs.Ytbjmadcbhkeenaa.st Go.Proofs.Ytbjmadcbhkeenaa.hs Go.Proofs.Ytbjmadcbhkeenaa.shr
set_option linter.unusedSimpArgs false
set_option linter.unusedVariables false
set_option pp.maxSteps 6000
theorem zeroKey : (Try.prog.info? 23).map (·.zero) = some (some (.agg ((List.replicate 32 (0 : Int)).map (Value.int .u8)).toArray)) := by kernel_rfl
end Go.Proofs.Ytbjmadcbhkeenaa.wr
namespace Go.Proofs.Ytbjmadcbhkeenaa.shr
set_option linter.unusedVariables false
open Go.RowKit Go.Proofs.Ytbjmadcbhkeenaa.sh Go.Proofs.Ytbjmadcbhkeenaa.Fld
set_option linter.unusedSimpArgs false
set_option linter.unusedSectionVars false
set_option pp.maxSteps 6000
/-- two arrays held against each other, told by its slot -/
theorem wl_neqD {P : Program} {w : World} {ops : Array Oper} {rest : List Oper} {o : Oper} {a : Act} {Q : Exit → Act → World → Prop} (d : Nat) (hd : o.dst = some d) (hgd : Region.wanted o (yielded ops a.tmps) = true) (ty ty2 : TypeId) (x y : Operand) (ho : o.op = .binOp .neq ty x y ty2)
    (A B : Array Value) (hx : a.eval x = .agg A) (hy : a.eval y = .agg B) (b : Bool) (he : (Op.equalIn 10000 ty (.agg A) (.agg B)).run P w = .ok b w) (hm : P.eqGuardType P.depth ty = false) (r : Bool) (hr : r = !b) (h : wpList P ops Q rest (a.put o.dst (.bool r)) w) : wpList P ops Q (o :: rest) a w := by
  subst hr
  refine wpList_step fun K hK' => ?_
  rw [if_pos hgd]
  unfold Oper.wp
  simp [execOp, ho, hx, hy, run_eqGuard_agg, run_neq_struct, hm, he, Result.andThen]
  exact hK' _ _ h
section
variable {need : Int} {ao : Option Addr} {cap : Nat} {l : List Sh} {w : World} (hr : RowS w ao l) (hok : ∀ s ∈ l, s.Ok) (hn : l.length ≤ 9223372036854775807) (hcap : l.length ≤ cap) (hmax : cap ≤ maxLen)
include hr hok hn hcap hmax
end
end Go.Proofs.Ytbjmadcbhkeenaa.shr
/- Slices of sums: what lies there, the argument opened; contracts of slices.Index at sums and share.Check. Conditions: sums of 32 octets; a share of the type's form. -/
namespace Go.Proofs.Ytbjmadcbhkeenaa.shr
open Go.RowKit Go.Proofs.Ytbjmadcbhkeenaa.sh Go.Proofs.Ytbjmadcbhkeenaa.st Go.Proofs.Ytbjmadcbhkeenaa.hs Go.ChangeShapes Go.WideShapes Go.ChangeAt
set_option linter.unusedSimpArgs false
set_option linter.unusedVariables false
set_option pp.maxSteps 6000
def SumLOk (h : List Int) : Prop := h.length = 32 ∧ ∀ c ∈ h, 0 ≤ c ∧ c ≤ 255
/-- behind the address lie these sums -/
def RowM (w : World) (ao : Option Addr) (l : List (List Int)) : Prop :=
  l = [] ∨ ∃ b off, ao = some ⟨b, off, none⟩ ∧ b < w.heap.size ∧ ∀ i, i < l.length → At w ⟨b, off + i * 32, none⟩ ((l.getD i []).map (Value.int .u8))
theorem RowM.at {w : World} {ao : Option Addr} {l : List (List Int)} (h : RowM w ao l) (hl : l ≠ []) : ∃ b off, ao = some ⟨b, off, none⟩ ∧ b < w.heap.size ∧ ∀ i, i < l.length → At w ⟨b, off + i * 32, none⟩ ((l.getD i []).map (Value.int .u8)) := by
  rcases h with h | h
  · exact absurd h hl
  · exact h
theorem RowM.below {w w' : World} {ao : Option Addr} {l : List (List Int)} (h : RowM w ao l) (hb : Below w.heap.size w w') : RowM w' ao l := by
  rcases h with h | ⟨b, off, h1, h2, h3⟩
  · exact Or.inl h
  · exact Or.inr ⟨b, off, h1, Nat.lt_of_lt_of_le h2 hb.size, fun i hi => At.below (h3 i hi) hb h2⟩
structure SumsAt {H : Type} (W : World) (v : Value) (d : DataW H) (l : List (List Int)) (ao : Option Addr) (cap : Nat) : Prop where
  val : v = .slice ao l.length cap
  le : l.length ≤ cap
  row : RowM W ao l
  none : ao = none → cap = 0 ∧ l.length = 0
  ok : ∀ s ∈ l, SumLOk s
  len : cap ≤ maxLen
end Go.Proofs.Ytbjmadcbhkeenaa.shr
/- How much a slice is at least; slices of sums as parts; contract of share.Marks. Conditions: shares of the type's form. -/
namespace Go.Proofs.Ytbjmadcbhkeenaa.shr
open Go.RowKit Go.Proofs.Ytbjmadcbhkeenaa.sh Go.Proofs.Ytbjmadcbhkeenaa.st Go.Proofs.Ytbjmadcbhkeenaa.hs Go.ChangeShapes Go.WideShapes Go.ChangeAt
set_option linter.unusedSimpArgs false
set_option linter.unusedVariables false
set_option pp.maxSteps 6000
theorem ptGrown {w w' : World} {x : Pt} {row : Option Nat} (h : x.Ok w) (hg : w.grownBy w' row) (hne : ∀ b, x.a = some b → row ≠ some b.block) : x.Ok w' :=
  ⟨(RowV.kept h.row.v hg hne).i, h.len, h.cap, h.oct, fun b e => Nat.lt_of_lt_of_le (h.lt b e) hg.size⟩
/-- a slice that holds parts, each a block of 32 octets -/
structure PartsAt (w : World) (base : Nat) (v : Value) (ps : List Pt) : Prop where
  own : w.ownsRow base 51 1 v ps.length (ps.map Pt.v)
  ok : ∀ x ∈ ps, x.Ok w ∧ ∃ g, x.a = some ⟨g, 0, none⟩ ∧ v.ownBlock ≠ some g
theorem PartsAt.nil (w : World) (base : Nat) : PartsAt w base (.slice none 0 0) [] := ⟨World.ownsRow_nil w base 51 1, fun x hx => by cases hx⟩
theorem owns_up {w w' : World} {base : Nat} {e : TypeId} {size n : Nat} {v : Value} {xs : List Value} (h : w.ownsRow base e size v n xs) (hb : Below w.heap.size w w') : w'.ownsRow base e size v n xs :=
  h.kept (grown_below hb : w.grownBy w' none) (by by_cases e : v.ownBlock = none; exact Or.inl e; exact Or.inr e)
theorem PartsAt.push {w w5 w6 w7 : World} {base g : Nat} {v v' : Value} {ps : List Pt} {m : List Int} {T T2 : TypeId} (h : PartsAt w base v ps) (hb : Below w.heap.size w w5) (hblk : BlkI .u8 T w5 g m) (hg : w.heap.size ≤ g) (hm : m.length = 32) (ho : Octs m)
    (hw6 : w6 = w5.alloc (.cells #[.slice (some ⟨g, 0, none⟩) 32 32] T2)) (hgr : w6.grownBy w7 v.ownBlock) (hv' : v'.ownBlock = v.ownBlock ∨ v'.ownBlock = some w6.heap.size)
    (hown : w7.ownsRow base 51 1 v' (ps.length + 1) (ps.map Pt.v ++ [.slice (some ⟨g, 0, none⟩) 32 32])) : PartsAt w7 base v' (ps ++ [⟨some ⟨g, 0, none⟩, 32, m⟩]) := by
  have hb6 : Below w.heap.size w w6 := by rw [hw6]; exact hb.alloc hb.size _
  have hvw : ∀ k, v.ownBlock = some k → k < w.heap.size := fun k hk => (h.own.lt k hk).2
  have hg5 : g < w5.heap.size := hblk.lt
  have hg6 : g < w6.heap.size := by rw [hw6]; simp; omega
  have hblk6 : BlkI .u8 T w6 g m := by rw [hw6]; exact hblk.alloc _
  refine ⟨?_, fun x hx => ?_⟩
  · rw [List.length_append, List.map_append]
    have e : [(⟨some ⟨g, 0, none⟩, 32, m⟩ : Pt)].map Pt.v = [.slice (some ⟨g, 0, none⟩) 32 32] := by
      show [Value.slice (some ⟨g, 0, none⟩) m.length 32] = _
      rw [hm]
    rw [e]; exact hown
  · rcases List.mem_append.1 hx with hx | hx
    · obtain ⟨h1, gx, h2, h3⟩ := h.ok x hx
      have hgx : gx < w.heap.size := h1.lt _ h2
      refine ⟨ptGrown (h1.below hb6) hgr (fun b e => ?_), gx, h2, ?_⟩
      · rw [h2] at e; cases e; exact h3
      · rcases hv' with e | e
        · rw [e]; exact h3
        · rw [e]; intro h; have := Option.some.inj h; have := hb6.size; omega
    · rw [List.mem_singleton] at hx
      subst hx
      have hvg : v.ownBlock ≠ some g := by intro e; have := hvw g e; omega
      refine ⟨ptGrown (w := w6) ⟨hblk6.row, by show m.length ≤ 32; omega, by show 32 ≤ maxLen; decide, ho, fun b e => by cases e; exact hg6⟩ hgr (fun b e => by cases e; exact hvg), g, rfl, ?_⟩
      rcases hv' with e | e
      · rw [e]; exact hvg
      · rw [e]; intro h; have := Option.some.inj h; omega
theorem rowV_of_owns' {w : World} {base n c N : Nat} {e : TypeId} {size : Nat} {ao : Option Addr} {xs : List Value} (h : w.ownsRow base e size (.slice ao n c) N xs) : RowV w ao xs := by
  obtain ⟨ao', cap', hv, _, hr⟩ := Mine.row (Or.inl h)
  injection hv with e1 e2 e3
  rw [e1]; exact hr
end Go.Proofs.Ytbjmadcbhkeenaa.shr
/- Plain facts for the law MarksMatch: what is written is read; first errors. No program; a share of the type's form. -/
namespace Go.Proofs.Ytbjmadcbhkeenaa.shr
open Go.RowKit Go.Proofs.Ytbjmadcbhkeenaa.sh Go.Proofs.Ytbjmadcbhkeenaa.st Go.Proofs.Ytbjmadcbhkeenaa.hs
set_option linter.unusedSimpArgs false
set_option linter.unusedVariables false
set_option pp.maxSteps 6000
end Go.Proofs.Ytbjmadcbhkeenaa.shr
/- Framed parts ready for a sum; an equality inside a region that draws. Conditions: parts that lie in memory. -/
namespace Go.Proofs.Ytbjmadcbhkeenaa.shr
open Go.RowKit Go.Proofs.Ytbjmadcbhkeenaa.sh Go.Proofs.Ytbjmadcbhkeenaa.st Go.Proofs.Ytbjmadcbhkeenaa.hs
set_option linter.unusedSimpArgs false
set_option linter.unusedVariables false
set_option pp.maxSteps 6000
end Go.Proofs.Ytbjmadcbhkeenaa.shr
namespace Go.Proofs.Ytbjmadcbhkeenaa.wr
open Go.RowKit Go.Proofs.Ytbjmadcbhkeenaa.st Go.Proofs.Ytbjmadcbhkeenaa.hs Go.Proofs.Ytbjmadcbhkeenaa.shr
set_option linter.unusedSimpArgs false
set_option linter.unusedVariables false
set_option pp.maxSteps 6000
theorem blk_octs (k n : List Int) (q : Nat) : Octs (blk k n q) := stirL_octs' _
end Go.Proofs.Ytbjmadcbhkeenaa.wr
namespace Go.Proofs.Ytbjmadcbhkeenaa.wr
open Go.RowKit Go.Proofs.Ytbjmadcbhkeenaa.st Go.Proofs.Ytbjmadcbhkeenaa.hs Go.Proofs.Ytbjmadcbhkeenaa.shr Go.Proofs.Ytbjmadcbhkeenaa.sh
set_option linter.unusedSimpArgs false
set_option linter.unusedVariables false
set_option pp.maxSteps 6000
/-- an envelope -/
structure Env where
  v : Int
  e : Int
  b : List Int
  o : List Int
  n : List Int
  c : List Int
  g : List Int
  t : List Int
structure Env.Ok (x : Env) : Prop where
  vb : -9223372036854775808 ≤ x.v ∧ x.v ≤ 9223372036854775807
  eb : -9223372036854775808 ≤ x.e ∧ x.e ≤ 9223372036854775807
  bl : x.b.length = 16
  ol : x.o.length = 16
  nl : x.n.length = 16
  cl : x.c.length = 32
  gl : x.g.length = 32
  tl : x.t.length = 16
  bo : Octs x.b
  oo : Octs x.o
  no : Octs x.n
  co : Octs x.c
  go : Octs x.g
  tt : Octs x.t
def Env.cs (x : Env) : List Value := (.int .i64 x.v :: .int .i64 x.e :: (x.b ++ x.o ++ x.n ++ x.c ++ x.g ++ x.t).map (Value.int .u8))
def Env.octs (x : Env) : List Int := x.b ++ x.o ++ x.n ++ x.c ++ x.g ++ x.t
theorem Env.cs_eq (x : Env) : x.cs = .int .i64 x.v :: .int .i64 x.e :: x.octs.map (Value.int .u8) := rfl
theorem Env.Ok.ol' {x : Env} (h : x.Ok) : x.octs.length = 128 := by
  unfold Env.octs
  simp only [List.length_append, h.bl, h.ol, h.nl, h.cl, h.gl, h.tl]
theorem Env.Ok.csl {x : Env} (h : x.Ok) : x.cs.length = 130 := by rw [Env.cs_eq]; simp [h.ol']
theorem Env.cs_one (x : Env) : ∀ u ∈ x.cs, u.oneCell' = true := by
  intro u hu
  rw [Env.cs_eq] at hu
  rcases List.mem_cons.1 hu with rfl | hu
  · rfl
  rcases List.mem_cons.1 hu with rfl | hu
  · rfl
  exact ints_one _ _ u hu
theorem Env.cv (x : Env) : x.cs[0]? = some (.int .i64 x.v) := rfl
section
variable {x : Env} (hx : x.Ok) {w : World} {t : TypeId} {p : Nat} (h : BlkV t w p x.cs)
include h in
include hx h
end
/-- a part that lies in a block is a row -/
theorem at_row {w : World} {p off : Nat} {cs : List Value} (hl : p < w.heap.size) (h : At w ⟨p, off, none⟩ cs) : RowV w (some ⟨p, off, none⟩) cs :=
  Or.inr ⟨p, off, rfl, hl, fun j u hu => by
    have := h j u hu
    rwa [addr_add] at this⟩
theorem o4_length (n : Int) : (o4 n).length = 4 := rfl
theorem o4_octs (n : Int) : Octs (o4 n) := by
  intro c hc
  simp only [o4, List.mem_cons, List.not_mem_nil, or_false] at hc
  rcases hc with rfl | rfl | rfl | rfl <;> exact ⟨by omega, by omega⟩
theorem agg32 : Agg Try.prog 22 32 := Agg.arr Try.underlying22 (by kernel_rfl)
end Go.Proofs.Ytbjmadcbhkeenaa.wr
namespace Go.Proofs.Ytbjmadcbhkeenaa.slB
open Go.RowKit
set_option linter.unusedSimpArgs false
set_option linter.unusedVariables false
theorem info : Info Try.prog 5 (.int .u8 0) 1 1 := by unfold Info; kernel_rfl
theorem bel2 {w w1 w2 : World} {row : Option Nat} (h : Below w.heap.size w w1) (hg : w1.grownBy w2 row) (hr : ∀ k, row = some k → w.heap.size ≤ k) : Below w.heap.size w w2 := h.grown hg h.size hr
/-- a part of Concat: a slice and its cells -/
structure Part where
  ao : Option Addr
  n : Nat
  cap : Nat
  cells : List Value
def Part.val (p : Part) : Value := .slice p.ao p.n p.cap
def Part.ok (w : World) (p : Part) : Prop := RowV w p.ao p.cells ∧ p.cells.length = p.n * 1 ∧ (∀ u ∈ p.cells, u.oneCell' = true) ∧ (p.ao = none → p.cap = 0)
def noPart : Part := ⟨none, 0, 0, []⟩
def flat : List Part → List Value
  | [] => []
  | p :: l => p.cells ++ flat l
/-- where the parts lie -/
def Parts (w : World) (ps : List Part) (po : Addr) : Prop := po.spot = none ∧ po.block < w.heap.size ∧ ∀ k, k < ps.length → w.cell? ⟨po.block, po.off + k, none⟩ = some (ps.getD k noPart).val
theorem Parts.below {w w' : World} {ps : List Part} {po : Addr} (h : Parts w ps po) (hb : Below w.heap.size w w') : Parts w' ps po :=
  ⟨h.1, Nat.lt_of_lt_of_le h.2.1 hb.size, fun k hk => by rw [hb.cell (p := ⟨po.block, po.off + k, none⟩) h.2.1]; exact h.2.2 k hk⟩
end Go.Proofs.Ytbjmadcbhkeenaa.slB
namespace Go.Proofs.Ytbjmadcbhkeenaa.wr
open Go.RowKit Go.Proofs.Ytbjmadcbhkeenaa.st Go.Proofs.Ytbjmadcbhkeenaa.hs Go.Proofs.Ytbjmadcbhkeenaa.shr Go.Proofs.Ytbjmadcbhkeenaa.sh
set_option linter.unusedSimpArgs false
set_option linter.unusedVariables false
set_option pp.maxSteps 6000
/-- append to a row of one's own, likewise -/
theorem step_appendS {P : Program} {ops : Array Oper} {o : Oper} {a : Act} {w : World} {K : Act → World → Prop} {Q : Exit → Act → World → Prop} {E : Prop} (hgd : o.guard = none) (s x : Operand) (t : TypeId)
    (ho : o.op = .call { callee := .builtin .append, args := #[s, x], argTypes := #[t, t] }) (e : TypeId) (z : Value) (size bytes : Nat) (ht : P.underlying t = some (.slice e)) (hi : Info P e z size bytes) (hzs : z.cells.size = size) (hsz : 0 < size)
    (base : Nat) (v : Value) (n : Nat) (xs : List Value) (hs : a.eval s = v) (hown : Mine w base e size v n xs) (ao : Option Addr) (m c : Nat) (hx : a.eval x = .slice ao m c) (hno : ao = none → c = 0) (news : List Value) (hl : news.length = m * size) (hrow : RowV w ao news) (h1 : ∀ u ∈ news, u.oneCell' = true)
    (b1 : n + m ≤ maxLen) (b2 : (n + m) * bytes ≤ 140737488355328) (hbase : base ≤ w.heap.size) (N : Nat) (hN : N = n + m)
    (hK : ∀ ao' cap' w' row, N ≤ cap' → Mine w' base e size (.slice ao' N cap') N (xs ++ news) → RowV w' ao' (xs ++ news) → w.grownBy w' row → (∀ k, row = some k → base ≤ k ∧ v.ownBlock = some k) → K (a.put o.dst (.slice ao' N cap')) w') : if Region.wanted o (yielded ops a.tmps) = true then Oper.wp P o a w K Q else E := by
  have hw : Region.wanted o (yielded ops a.tmps) = true := by simp [Region.wanted, hgd]
  rw [if_pos hw]
  subst hN
  obtain ⟨v', w', row, hrun, r1, r2, r3⟩ := run_append_mine (P := P) w t o.type e z size bytes ht hi hzs hsz base v n xs hown ao m c hno news hl hrow h1 b1 b2 hbase
  obtain ⟨ao', cap', rfl, h2, h3⟩ := r1.row
  unfold Oper.wp
  simp [execOp, ho, resolve, invoke, builtin, hs, hx, hrun, Result.andThen]
  exact hK ao' cap' w' row h2 r1 h3 r2 r3
theorem at_below {w w' : World} {B p off : Nat} {cs : List Value} (h : At w ⟨p, off, none⟩ cs) (hb : Below B w w') (hp : p < B) : At w' ⟨p, off, none⟩ cs := fun j u hu => by
  have h1 := h j u hu
  rw [addr_add] at h1 ⊢
  rw [hb.cell (p := ⟨p, off + j, none⟩) hp]; exact h1
theorem at_range {w : World} {p off : Nat} {cs : List Value} (h : At w ⟨p, off, none⟩ cs) : w.rangeAt p off cs := fun j u hu => by
  have h1 := h j u hu
  rwa [addr_add] at h1
/-- a slice literal, the world behind it a letter -/
theorem step_lit {P : Program} {ops : Array Oper} {o : Oper} {a : Act} {w : World} {K : Act → World → Prop} {Q : Exit → Act → World → Prop} {E : Prop} (hgd : o.guard = none) (t e : TypeId) (len : Nat) (parts : Array (Nat × Operand)) (ho : o.op = .buildSlice t len parts)
    (hu : P.underlying t = some (.slice e)) (z : Value) (size bytes : Nat) (hi : Info P e z size bytes) (hsmall : len * size ≤ 2 ^ 24) (hpos : 0 < len * size) (cs : List Value)
    (hf : Instr.fill (fun i => some (i * size, size)) ((Array.range (len * size)).map (z.cells[· % z.cells.size]!)) (parts.map fun (i, x) => (i, a.eval x)).toList = some cs.toArray) (N : Nat) (hN : w.heap.size = N)
    (h : ∀ w', BlkV e w' N cs → Below N w w' → w'.heap.size = N + 1 → K (a.put o.dst (.slice (some ⟨N, 0, none⟩) len len)) w') : if Region.wanted o (yielded ops a.tmps) = true then Oper.wp P o a w K Q else E := by
  have hw : Region.wanted o (yielded ops a.tmps) = true := by simp [Region.wanted, hgd]
  rw [if_pos hw]
  subst hN
  obtain ⟨i, hi1, hz, hsi, hby⟩ := hi.parts
  subst hsi
  exact wp_buildSlice t e len parts ho cs.toArray i z hu hi1 hz (by omega) (by omega) hf (h _ (BlkV.new e w cs rfl) ((Below.refl _ _).alloc (Nat.le_refl _) _) (by simp))
theorem wl_lit {P : Program} {w : World} {ops : Array Oper} {rest : List Oper} {o : Oper} {a : Act} {Q : Exit → Act → World → Prop} (hgd : o.guard = none) (t e : TypeId) (len : Nat) (parts : Array (Nat × Operand)) (ho : o.op = .buildSlice t len parts)
    (hu : P.underlying t = some (.slice e)) (z : Value) (size bytes : Nat) (hi : Info P e z size bytes) (hsmall : len * size ≤ 2 ^ 24) (hpos : 0 < len * size) (cs : List Value)
    (hf : Instr.fill (fun i => some (i * size, size)) ((Array.range (len * size)).map (z.cells[· % z.cells.size]!)) (parts.map fun (i, x) => (i, a.eval x)).toList = some cs.toArray) (N : Nat) (hN : w.heap.size = N)
    (h : ∀ w', BlkV e w' N cs → Below N w w' → w'.heap.size = N + 1 → wpList P ops Q rest (a.put o.dst (.slice (some ⟨N, 0, none⟩) len len)) w') : wpList P ops Q (o :: rest) a w := by
  subst hN
  obtain ⟨i, hi1, hz, hsi, hby⟩ := hi.parts
  subst hsi
  refine wpList_plain hgd fun K hK' => ?_
  exact wp_buildSlice t e len parts ho cs.toArray i z hu hi1 hz (by omega) (by omega) hf (hK' _ _ (h _ (BlkV.new e w cs rfl) ((Below.refl _ _).alloc (Nat.le_refl _) _) (by simp)))
end Go.Proofs.Ytbjmadcbhkeenaa.wr
namespace Go.Proofs.Ytbjmadcbhkeenaa.gs
open Go.RowKit Go.Proofs.Ytbjmadcbhkeenaa.Fld Go.Proofs.Ytbjmadcbhkeenaa.sh Go.Proofs.Ytbjmadcbhkeenaa.shr Go.Proofs.Ytbjmadcbhkeenaa.slInt
set_option linter.unusedSimpArgs false
set_option linter.unusedVariables false
set_option pp.maxSteps 6000
structure RowsOk (B Bi : Nat) (w : World) (u : Nat) (rs : List Rw) : Prop where
  nd : ∀ (i j : Nat) (r s : Rw), rs[i]? = some r → rs[j]? = some s → i ≠ j → r.b ≠ s.b
  nR : ∀ (i : Nat) (r : Rw), rs[i]? = some r → B ≤ r.b ∧ r.b < Bi
  row : ∀ (i : Nat) (r : Rw), rs[i]? = some r → RowB 3 w r.b (r.l.map (Value.int .i64)) ∧ r.l.length = u + 1 ∧ Rng r.l ∧ u + 1 ≤ r.c
section
variable {B Bi u : Nat} {w w' : World} {rs : List Rw}
theorem RowsOk.nil (B Bi u : Nat) (w : World) : RowsOk B Bi w u [] := ⟨fun i j r s h => by simp at h, fun i r h => by simp at h, fun i r h => by simp at h⟩
theorem RowsOk.keep (h : RowsOk B Bi w u rs) (hb : ∀ (i : Nat) (r : Rw), rs[i]? = some r → w'.heap[r.b]? = w.heap[r.b]?) : RowsOk B Bi w' u rs :=
  ⟨h.nd, h.nR, fun i r hi => ⟨rowB_kept (h.row i r hi).1 (hb i r hi), (h.row i r hi).2⟩⟩
theorem RowsOk.below (h : RowsOk B Bi w u rs) (hb : Below Bi w w') : RowsOk B Bi w' u rs := h.keep fun i r hi => hb.block _ (h.nR i r hi).2
theorem RowsOk.more (h : RowsOk B Bi w u rs) {Bj : Nat} (hj : Bi ≤ Bj) : RowsOk B Bj w u rs := ⟨h.nd, fun i r hi => ⟨(h.nR i r hi).1, by have := (h.nR i r hi).2; omega⟩, h.row⟩
theorem RowsOk.ne (h : RowsOk B Bi w u rs) {g : Nat} {cs : List Value} (hg : RowB 24 w g cs) {i : Nat} {r : Rw} (hi : rs[i]? = some r) : r.b ≠ g := by
  intro e
  obtain ⟨c1, h1, _⟩ := (h.row i r hi).1
  obtain ⟨c2, h2, _⟩ := hg
  subst e
  have := Option.some.inj (h1.symm.trans h2)
  injection this with _ e2
  revert e2; decide
theorem RowsOk.grown (h : RowsOk B Bi w u rs) {row : Option Nat} (hg : w.grownBy w' row) (hr : ∀ k, row = some k → ∃ cs, RowB 24 w k cs) : RowsOk B Bi w' u rs :=
  ⟨h.nd, h.nR, fun i r hi => ⟨(h.row i r hi).1.grown hg (fun e => by obtain ⟨cs, hc⟩ := hr _ e; exact h.ne hc hi rfl), (h.row i r hi).2⟩⟩
theorem RowsOk.snoc (h : RowsOk B Bi w u rs) {Bj b c : Nat} {l : List Int} (hB : B ≤ Bi) (h1 : Bi ≤ b) (h2 : b < Bj) (hR : RowB 3 w b (l.map (Value.int .i64))) (hl : l.length = u + 1) (hr : Rng l) (hc : u + 1 ≤ c) : RowsOk B Bj w u (rs ++ [⟨b, c, l⟩]) := by
  have hx : ∀ (i : Nat) (r : Rw), (rs ++ [(⟨b, c, l⟩ : Rw)])[i]? = some r → rs[i]? = some r ∨ (i = rs.length ∧ r = ⟨b, c, l⟩) := by
    intro i r hi
    rw [List.getElem?_append] at hi
    split at hi
    · exact Or.inl hi
    · rename_i hn
      by_cases e : i = rs.length
      · subst e; simp at hi; exact Or.inr ⟨rfl, hi.symm⟩
      · rw [List.getElem?_eq_none (by simp; omega)] at hi; cases hi
  refine ⟨?_, ?_, ?_⟩
  · intro i j r s hi hj hij
    rcases hx i r hi with hi | ⟨hi, rfl⟩ <;> rcases hx j s hj with hj | ⟨hj, rfl⟩
    · exact h.nd i j r s hi hj hij
    · have := (h.nR i r hi).2; dsimp only; omega
    · have := (h.nR j s hj).2; dsimp only; omega
    · omega
  · intro i r hi
    rcases hx i r hi with hi | ⟨hi, rfl⟩
    · have := h.nR i r hi; omega
    · dsimp only; omega
  · intro i r hi
    rcases hx i r hi with hi | ⟨hi, rfl⟩
    · exact h.row i r hi
    · exact ⟨hR, hl, hr, hc⟩
theorem RowsOk.mat (h : RowsOk B Bi w u rs) {B2 R : Nat} (hd : RowB 24 w R (rs.map (Rw.v u))) (h1 : B ≤ R ∧ R < B2) (h2 : Bi ≤ B2) : MatW B B2 w R u rs :=
  ⟨hd, h1, h.nd, fun i r hi => ⟨h.ne hd hi, (h.nR i r hi).1, by have := (h.nR i r hi).2; omega⟩, h.row⟩
end
theorem rowOf {w : World} {base n c size : Nat} {t : TypeId} {ao : Option Addr} {xs : List Value} (h : Mine w base t size (.slice ao n c) n xs) (hn : 0 < n) : ∃ g, ao = some ⟨g, 0, none⟩ ∧ base ≤ g ∧ n ≤ c ∧ RowB t w g xs := by
  rcases h with h | ⟨h, _⟩
  · obtain ⟨g, c', e, h1, h2, h3⟩ := RowB.of_owns h hn
    injection e with e1 e2 e3
    subst e1 e3
    exact ⟨g, rfl, h1, h2, h3⟩
  · omega
theorem ownsBlk {w : World} {base n size k : Nat} {t : TypeId} {v : Value} {xs : List Value} (h : w.ownsRow base t size v n xs) (hk : v.ownBlock = some k) : ∃ cs, RowB t w k cs := by
  obtain ⟨_, h | ⟨g, cap, cur, hv, hg, hh, _⟩⟩ := h
  · rw [h.1] at hk; cases hk
  · rw [hv] at hk
    cases hk
    exact ⟨[], cur.toList, hh, rfl⟩
theorem infoRow : Info Try.prog 24 (.slice none 0 0) 1 24 := by unfold Info; kernel_rfl
theorem wl_makeC {w : World} {ops : Array Oper} {rest : List Oper} {o : Oper} {a : Act} {Q : Exit → Act → World → Prop} (hgd : o.guard = none) (x y : Operand) (ho : o.op = .makeSlice 24 x y)
    (n : Nat) (hn : n ≤ 1099511627776) (hx : a.eval x = .int .i64 0) (hy : a.eval y = .int .i64 n) (N : Nat) (hN : w.heap.size = N)
    (h : ∀ w', Mine w' N 3 1 (.slice (some ⟨N, 0, none⟩) 0 n) 0 [] → Below N w w' → w'.heap.size = N + 1 → wpList Try.prog ops Q rest (a.put o.dst (.slice (some ⟨N, 0, none⟩) 0 n)) w') : wpList Try.prog ops Q (o :: rest) a w := by
  subst hN
  obtain ⟨i, hi, hz, hs, hb⟩ := slInt.info.parts
  have hrun := run_make (P := Try.prog) (w := w) 24 3 i (.int .i64 0) Try.underlying24 hi hz .i64 .i64 (0 : Int) (n : Int) (by omega) (by omega) (by rw [hb]; omega) (by omega)
  rw [Int.toNat_natCast, hs, Int.toNat_zero] at hrun
  refine wpList_plain hgd fun K hK' => ?_
  unfold Oper.wp
  simp [execOp, ho, hx, hy, hrun, Result.andThen]
  exact hK' _ _ (h _ (Or.inl ⟨rfl, Or.inr ⟨w.heap.size, n, _, rfl, Nat.le_refl _, heap_alloc_new w _, Nat.zero_le _, by unfold maxLen; omega, by simp [madeCells], by simp⟩⟩) ((Below.refl _ _).alloc (Nat.le_refl _) _) (by simp))
theorem bwM_take_succ (q wr : Nat) (xs ys : List Int) (k : Nat) (hk : k < xs.length) : (bwM q wr xs ys).take (k + 1) = (bwM q wr xs ys).take k ++ [bwRow q wr (xs.getD k 0) (ys.getD k 0)] := by
  rw [List.take_add_one, List.getElem?_eq_getElem (by rw [bwM_length]; exact hk), ← bwM_getD q wr xs ys k hk, getD_lt _ _ (by rw [bwM_length]; exact hk)]
  rfl
end Go.Proofs.Ytbjmadcbhkeenaa.gs
