/-
  Contract of wrap.Read. Conditions: a slice of octets that lies in memory. Contracts of mix.Cover, wrap.cover and wrap.tag. Conditions: keys, nonces and texts of octets, texts of at most 2^20 octets. Maps keyed by IDs, all values true: reading and writing one. Conditions: IDs of 16 octets. Contracts of wrap.Pack and keyref2.Packed: a pack's octets. Conditions: parts of octets that lie in memory and have no fault. Slices of octets that are cut; mix.Number where there are too few octets. Conditions: as stated. Contracts of wrap.Unpack and keyref2.Unpacked. Conditions: a text of at most 2^40 octets that lies in memory. Contracts of slices.EqualFunc at slices of octets and of wrap.OpenPack. Conditions: slices that lie in memory; a pack of at most 2^40 octets.
-/
import Derived.Test.YtbljihhelladbaaHWrH
import Derived.Test.YtbljihhelladbaaHMkX
import Derived.Test.YtbljihhelladbaaHWrI
import Derived.Test.YtbljihhelladbaaHShBC
import Derived.Test.YtbljihhelladbaaHBsl
import Derived.Test.YtbljihhelladbaaHCkB
import Derived.WideKeyRuns
import Derived.Lib.AppendStr
import Derived.Deep.LoopGhost
import Derived.WalkMore
import Derived.Lib.OthersKept
import Derived.Lib.TrimU
import Derived.Lib.Bytealg
import Derived.Laws.RangeString
import Derived.Laws.Runes
import Derived.WideMake
import Derived.Laws.Slices
namespace Go.Proofs.Ytbljihhelladbaa.wr
open Go.RowKit Go.Proofs.Ytbljihhelladbaa.st Go.Proofs.Ytbljihhelladbaa.hs Go.Proofs.Ytbljihhelladbaa.shr Go.Proofs.Ytbljihhelladbaa.sh
set_option linter.unusedSimpArgs false
set_option linter.unusedVariables false
set_option pp.maxSteps 6000
structure Env.Len (x : Env) : Prop where
  bl : x.b.length = 16
  ol : x.o.length = 16
  nl : x.n.length = 16
  cl : x.c.length = 32
  gl : x.g.length = 32
  tl : x.t.length = 16
theorem Env.cs_split (x : Env) : x.cs = [.int .i64 x.v, .int .i64 x.e] ++ x.b.map (Value.int .u8) ++ x.o.map (Value.int .u8) ++ x.n.map (Value.int .u8) ++ x.c.map (Value.int .u8) ++ x.g.map (Value.int .u8) ++ x.t.map (Value.int .u8) := by
  rw [Env.cs_eq]; unfold Env.octs; simp
theorem Env.Len.csl {x : Env} (h : x.Len) : x.cs.length = 130 := by rw [Env.cs_split]; simp [h.bl, h.ol, h.nl, h.cl, h.gl, h.tl]
end Go.Proofs.Ytbljihhelladbaa.wr
namespace Go.Proofs.Ytbljihhelladbaa.wr
open Go.RowKit Go.Proofs.Ytbljihhelladbaa.st Go.Proofs.Ytbljihhelladbaa.hs Go.Proofs.Ytbljihhelladbaa.shr Go.Proofs.Ytbljihhelladbaa.sh
set_option linter.unusedSimpArgs false
set_option linter.unusedVariables false
set_option pp.maxSteps 6000
/-- an own row that is not empty: its block -/
theorem own_blk {w : World} {base m c : Nat} {e : TypeId} {ao : Option Addr} {xs : List Value} (h : w.ownsRow base e 1 (.slice ao m c) m xs) (hm : 0 < m) : ∃ g cur, ao = some ⟨g, 0, none⟩ ∧ base ≤ g ∧ BlkV e w g cur ∧ m ≤ c ∧ c ≤ maxLen ∧ cur.length = c ∧ cur.take m = xs := by
  obtain ⟨_, h | ⟨g, cap, cur, hv, hg, hh, h1, h2, h3, h4⟩⟩ := h
  · simp at h; omega
  · cases hv
    refine ⟨g, cur.toList, rfl, hg, hh, h1, h2, by simpa using h3, by simpa using h4⟩
end Go.Proofs.Ytbljihhelladbaa.wr
namespace Go.Proofs.Ytbljihhelladbaa.wr
open Go.RowKit Go.Proofs.Ytbljihhelladbaa.st Go.Proofs.Ytbljihhelladbaa.hs Go.Proofs.Ytbljihhelladbaa.shr Go.Proofs.Ytbljihhelladbaa.sh
set_option linter.unusedSimpArgs false
set_option linter.unusedVariables false
set_option pp.maxSteps 6000
def idV (l : List Int) : Value := .agg (l.map (Value.int .u8)).toArray
/-- the entries of a map of IDs that are all true -/
def IdKeys (es : List MapEntry) (seen : List (List Int)) : Prop := es.map (·.key) = seen.map idV ∧ (∀ e ∈ es, e.val = .bool true) ∧ ∀ s ∈ seen, s.length = 16
theorem IdKeys.nil : IdKeys [] [] := ⟨rfl, (fun e h => by cases h), (fun s h => by cases h)⟩
theorem IdKeys.push {es : List MapEntry} {seen : List (List Int)} (h : IdKeys es seen) {l : List Int} (hl : l.length = 16) (c : Nat) : IdKeys (es ++ [⟨idV l, .bool true, c⟩]) (seen ++ [l]) := by
  refine ⟨by rw [List.map_append, List.map_append, h.1]; rfl, fun e he => ?_, fun s hs => ?_⟩
  · rcases List.mem_append.1 he with he | he
    · exact h.2.1 e he
    · rw [List.mem_singleton] at he; rw [he]
  · rcases List.mem_append.1 hs with hs | hs
    · exact h.2.2 s hs
    · rw [List.mem_singleton] at hs; rw [hs]; exact hl
end Go.Proofs.Ytbljihhelladbaa.wr
namespace Go.Proofs.Ytbljihhelladbaa.wr
open Go.RowKit Go.Proofs.Ytbljihhelladbaa.st Go.Proofs.Ytbljihhelladbaa.hs Go.Proofs.Ytbljihhelladbaa.shr Go.Proofs.Ytbljihhelladbaa.sh
set_option linter.unusedSimpArgs false
set_option linter.unusedVariables false
set_option pp.maxSteps 6000
/-- an own row of octets that is not empty -/
def Own8 (B : Nat) (w : World) (g c m : Nat) (L : List Int) : Prop := w.ownsRow B 5 1 (.slice (some ⟨g, 0, none⟩) m c) m (L.map (Value.int .u8))
theorem Own8.of {B m c : Nat} {w : World} {ao : Option Addr} {L : List Int} (h : Mine w B 5 1 (.slice ao m c) m (L.map (Value.int .u8))) (hm : 0 < m) : ∃ g, ao = some ⟨g, 0, none⟩ ∧ B ≤ g ∧ g < w.heap.size ∧ Own8 B w g c m L := by
  have h1 := mine_own h hm
  obtain ⟨g, cur, e, hg, hb, _⟩ := own_blk h1 hm
  subst e
  exact ⟨g, rfl, hg, hb.lt, h1⟩
theorem Own8.row {B m c g : Nat} {w : World} {L : List Int} (h : Own8 B w g c m L) : RowI .u8 w (some ⟨g, 0, none⟩) L := by
  obtain ⟨ao', cap', hv, _, hr⟩ := Mine.row (Or.inl h)
  injection hv with e1 e2 e3
  rw [← e1] at hr
  exact hr.i
theorem Own8.lt {B m c g : Nat} {w : World} {L : List Int} (h : Own8 B w g c m L) : B ≤ g ∧ g < w.heap.size := World.ownsRow.lt h g rfl
end Go.Proofs.Ytbljihhelladbaa.wr
namespace Go.Proofs.Ytbljihhelladbaa.wr
open Go.RowKit Go.Proofs.Ytbljihhelladbaa.st Go.Proofs.Ytbljihhelladbaa.hs Go.Proofs.Ytbljihhelladbaa.shr Go.Proofs.Ytbljihhelladbaa.sh
set_option linter.unusedSimpArgs false
set_option linter.unusedVariables false
set_option pp.maxSteps 6000
theorem ptCut {w : World} {a : Option Addr} {c : Nat} {L : List Int} (HP : Pt.Ok w ⟨a, c, L⟩) (l h m : Nat) (h1 : l ≤ h) (h2 : h ≤ L.length) (h3 : h ≤ m) (h4 : m ≤ c) : Pt.Ok w ⟨if m = l then a else a.map (·.add (l * 1)), m - l, (L.drop l).take (h - l)⟩ := by
  have hlen : ((L.drop l).take (h - l)).length = h - l := by rw [List.length_take, List.length_drop]; omega
  refine ⟨?_, by show ((L.drop l).take (h - l)).length ≤ m - l; rw [hlen]; omega, Nat.le_trans (by show m - l ≤ c; omega) HP.cap, fun x hx => HP.oct x (List.mem_of_mem_drop (List.mem_of_mem_take hx)), fun b e => ?_⟩
  · by_cases e : l = h
    · left; show (L.drop l).take (h - l) = []; rw [e, Nat.sub_self, List.take_zero]
    · obtain ⟨b, off, hao, hb, hc⟩ := HP.row.at (i := 0) (by show 0 < L.length; omega)
      dsimp only at hao
      right
      refine ⟨b, off + l, ?_, hb, fun i hi => ?_⟩
      · show (if m = l then a else a.map (·.add (l * 1))) = _
        rw [if_neg (by omega), hao, Nat.mul_one]
        show some (Addr.add _ _) = _
        rw [addr_add]
      · dsimp only at hi
        rw [hlen] at hi
        show w.cell? ⟨b, off + l + i, none⟩ = some (.int .u8 (((L.drop l).take (h - l)).getD i 0))
        have := hc (l + i) (by show l + i < L.length; omega)
        rw [Nat.add_assoc, this]
        simp [List.getD_eq_getElem?_getD, List.getElem?_take, hi]
  · dsimp only at e
    by_cases e2 : m = l
    · rw [if_pos e2] at e; exact HP.lt b e
    · rw [if_neg e2] at e
      cases a with
      | none => cases e
      | some a0 =>
        have h9 := HP.lt a0 rfl
        simp only [Option.map_some, Option.some.injEq] at e
        rw [← e]
        unfold Addr.add
        split <;> exact h9
section
variable {w : World} {ops : Array Oper} {rest : List Oper} {o : Oper} {a : Act} {Q : Exit → Act → World → Prop}
end
end Go.Proofs.Ytbljihhelladbaa.wr
namespace Go.Proofs.Ytbljihhelladbaa.wr
open Go.RowKit Go.Proofs.Ytbljihhelladbaa.st Go.Proofs.Ytbljihhelladbaa.hs Go.Proofs.Ytbljihhelladbaa.shr Go.Proofs.Ytbljihhelladbaa.sh
set_option linter.unusedSimpArgs false
set_option linter.unusedVariables false
set_option pp.maxSteps 6000
/-- a slice that holds parts -/
structure PartsB (w : World) (base : Nat) (v : Value) (ps : List Pt) : Prop where
  own : w.ownsRow base 69 1 v ps.length (ps.map Pt.v)
  ok : ∀ x ∈ ps, x.Ok w ∧ ∀ b, x.a = some b → v.ownBlock ≠ some b.block
theorem PartsB.nil (w : World) (base : Nat) : PartsB w base (.slice none 0 0) [] := ⟨World.ownsRow_nil w base 69 1, fun x hx => by cases hx⟩
theorem PartsB.push {w w6 w7 : World} {base : Nat} {v v' : Value} {ps : List Pt} {y : Pt} (h : PartsB w base v ps) (hb : Below w.heap.size w w6) (hy : y.Ok w6) (hyb : ∀ b, y.a = some b → w.heap.size ≤ b.block)
    (hbase : base ≤ w.heap.size) (hgr : w6.grownBy w7 v.ownBlock) (hv' : v'.ownBlock = v.ownBlock ∨ v'.ownBlock = some w6.heap.size)
    (hown : w7.ownsRow base 69 1 v' (ps.length + 1) (ps.map Pt.v ++ [y.v])) : PartsB w7 base v' (ps ++ [y]) := by
  have hvw : ∀ k, v.ownBlock = some k → base ≤ k ∧ k < w.heap.size := fun k hk => h.own.lt k hk
  have hyv : ∀ b, y.a = some b → v.ownBlock ≠ some b.block := fun b e g => by
    have h1 := hvw _ g
    have h2 := hyb b e
    omega
  refine ⟨by rw [List.length_append, List.map_append]; exact hown, fun x hx => ?_⟩
  rcases List.mem_append.1 hx with hx | hx
  · obtain ⟨h1, h2⟩ := h.ok x hx
    refine ⟨ptGrown (h1.below hb) hgr (fun b e => h2 b e), fun b e => ?_⟩
    rcases hv' with g | g
    · rw [g]; exact h2 b e
    · rw [g]; intro g2; have g3 := Option.some.inj g2; have := h1.lt b e; have := hb.size; omega
  · rw [List.mem_singleton] at hx
    subst hx
    refine ⟨ptGrown hy hgr (fun b e => hyv b e), fun b e => ?_⟩
    rcases hv' with g | g
    · rw [g]; exact hyv b e
    · rw [g]; intro g2; have g3 := Option.some.inj g2; have := hy.lt b e; omega
theorem PartsB.below {w w' : World} {base : Nat} {v : Value} {ps : List Pt} (h : PartsB w base v ps) (hb : Below w.heap.size w w') : PartsB w' base v ps :=
  ⟨owns_up h.own hb, fun x hx => ⟨(h.ok x hx).1.below hb, (h.ok x hx).2⟩⟩
theorem PartsB.row {w : World} {base n c : Nat} {ao : Option Addr} {ps : List Pt} (h : PartsB w base (.slice ao n c) ps) : RowV w ao (ps.map Pt.v) := rowV_of_owns' h.own
end Go.Proofs.Ytbljihhelladbaa.wr
namespace Go.Proofs.Ytbljihhelladbaa.wr
open Go.RowKit Go.Proofs.Ytbljihhelladbaa.st Go.Proofs.Ytbljihhelladbaa.hs Go.Proofs.Ytbljihhelladbaa.shr Go.Proofs.Ytbljihhelladbaa.sh
set_option linter.unusedSimpArgs false
set_option linter.unusedVariables false
set_option pp.maxSteps 6000
theorem results_cell3 {fn : Func} {c u v : Tmp} {t : TypeId} (h : fn.results = #[.cell c t, .tmp u, .tmp v]) (tmps : Array Value) (P : Program) (w : World) (p : Addr) (hp : tmps.getD c undef = .pointer (some p)) (cs : List Value) (ha : Agg P t cs.length) (hc : At w p cs) :
    (results fn tmps).run P w = .ok (.tuple #[.agg cs.toArray, tmps.getD u undef, tmps.getD v undef]) w := by
  rw [Array.getD_eq_getD_getElem?] at hp
  simp [results, h, hp, run_load_agg w t p cs ha hc, asAddr]
end Go.Proofs.Ytbljihhelladbaa.wr
