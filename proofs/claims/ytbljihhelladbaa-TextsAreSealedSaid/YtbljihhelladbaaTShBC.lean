/-
  Contracts of value, ValueOf, rangeFault, First, When, mod and through. Conditions: numbers from 0 to 256. Shares as the proofs read them, plain: what is wrong with shares, the polynomials through them, what lies on them, what fits. No program, no condition. Arguments that are slices of integers, opened for the walks: their numbers, their room, their bulk. No condition. Slices of shares as the walks read them ('RowS'), and such arguments opened. No condition. Contracts of package slices at []int. Conditions: the bounds that append asks. Contract of share.badValues. No condition but the share's form. Contracts of share.outside, eachFault and CheckShares: what is wrong with shares. Conditions: shares of the type's form, 2^40 at most.
-/
import Derived.Test.YtbljihhelladbaaTMem
import Derived.Test.YtbljihhelladbaaTNum
import Derived.Test.YtbljihhelladbaaTStE
import Derived.Deep.OwnRows
import Derived.ChangeSlices
import Derived.ProofKit
import Derived.WideShapes
import Derived.OpenShut
import Derived.Deep.Slices
import Derived.Lib.SliceRun
import Derived.Lib.AppendZeros
/- Contracts of share.value, rangeFault, Value; keyref2.When, First, mod, ValueOf. Conditions: the ranges that are named. -/
namespace Go.Proofs.Ytbljihhelladbaa.sh
set_option linter.unusedSimpArgs false
set_option linter.unusedVariables false
open Go.RowKit Go.Proofs.Ytbljihhelladbaa.Fld
/-- an error, if it is so -/
def whenE (b : Bool) (n : Int) : Int := if b then n else 0
/-- the first of two errors -/
def firstE2 (x y : Int) : Int := if x = 0 then y else x
theorem When_any (b : Bool) (n : Int) (w : World) : Calls Try.prog 21 #[.bool b, .int .i64 n] w fun e w' => e = .returned (.int .i64 (whenE b n)) ∧ w = w' := by
  cases b
  · go_enter Try.func21, Try.ntmps21
    go_wp2
    go_ret
    exact ⟨rfl, rfl⟩
  · go_enter Try.func21, Try.ntmps21
    go_wp2
    go_ret
    exact ⟨rfl, rfl⟩
/-- the first number that is not 0 -/
def firstE : List Int → Int
  | [] => 0
  | n :: l => if n = 0 then firstE l else n
theorem firstE_drop (l : List Int) (k : Nat) (hk : k < l.length) : firstE (l.drop k) = if l.getD k 0 = 0 then firstE (l.drop (k + 1)) else l.getD k 0 := by
  have e : l.drop k = l[k] :: l.drop (k + 1) := List.drop_eq_getElem_cons hk
  rw [e, getD_lt l 0 hk]
  rfl
theorem First_any (ao : Option Addr) (cap : Nat) (l : List Int) (w : World) (hr : RowI .i64 w ao l) (hn : l.length ≤ 4611686018427387904) :
    Calls Try.prog 23 #[.slice ao l.length cap] w fun e w' => e = .returned (.int .i64 (firstE l)) ∧ w = w' := by
  go_enter Try.func23, Try.ntmps23
  go_wp2
  go_loop [4, 7] (fun _ i => ∃ k : Nat, k ≤ l.length ∧ i = .int .i64 k ∧ firstE (l.drop k) = firstE l) (fun _ i => l.length - (intOf i).toNat)
  case atStart => exact ⟨0, Nat.zero_le _, rfl, rfl⟩
  case round =>
    obtain ⟨k, hk, rfl, ha⟩ := hrel
    have HA := hid ha; clear ha
    by_cases h0 : k < l.length
    · obtain ⟨b, off, c, rfl, hb, HC, hcell⟩ := hr.elem (i := k) h0
      have HD := firstE_drop l k h0
      rw [← HC.out, HA.out] at HD
      replace HD := hid HD
      by_cases hc : c = 0
      · have HZ := hid hc
        have hc' : (c != 0) = false := by simp [hc]
        clear hc
        go_wp2
        go_round
        case rel => exact ⟨k + 1, by omega, by go_num, by rw [HD.out, if_pos HZ.out]⟩
        case measure => simp [intOf] <;> omega
      · have hc' : (c != 0) = true := by simp [hc]
        have HZ := hid hc
        clear hc
        go_wp2
        go_ret
        exact ⟨rv (ri (by rw [HD.out, if_neg HZ.out])), rfl⟩
    · go_wp2
      go_ret
      exact ⟨rv (ri (by rw [← HA.out, List.drop_eq_nil_of_le (by omega)]; rfl)), rfl⟩
theorem First_two (x y : Int) (w w0 : World) (hw : w0 = w.alloc (.cells #[.int .i64 x, .int .i64 y] 27)) :
    Calls Try.prog 23 #[.slice (some ⟨w.heap.size, 0, none⟩) 2 2] w0 fun e w' => e = .returned (.int .i64 (firstE2 x y)) ∧ w0 = w' := by
  subst hw
  unfold firstE2
  have h : RowI .i64 (w.alloc (.cells #[.int .i64 x, .int .i64 y] 27)) (some ⟨w.heap.size, 0, none⟩) [x, y] := by
    refine Or.inr ⟨_, _, rfl, by simp, fun i hi => ?_⟩
    rw [World.cell?_alloc_at _ _ _ _ (by simp)]
    match i, hi with
    | 0, _ => rfl
    | 1, _ => rfl
  refine (First_any _ 2 [x, y] _ h (by simp)).mono fun e w' ⟨h1, h2⟩ => ⟨?_, h2⟩
  rw [h1]
  simp only [firstE]
  by_cases hx : x = 0
  · rw [if_pos hx, if_pos hx]
    by_cases hy : y = 0
    · rw [if_pos hy, hy]
    · rw [if_neg hy]
  · rw [if_neg hx, if_neg hx]
end Go.Proofs.Ytbljihhelladbaa.sh
/- Contract of share.through: the polynomial that Newton's steps give, in new memory. Conditions: as many places as values, 64 at most, all from 0 to 256, the places different. -/
namespace Go.Proofs.Ytbljihhelladbaa.sh
open Go.RowKit Go.Proofs.Ytbljihhelladbaa.Fld
end Go.Proofs.Ytbljihhelladbaa.sh
namespace Go.Proofs.Ytbljihhelladbaa.shr
set_option linter.unusedSimpArgs false
set_option linter.unusedVariables false
open Go.RowKit Go.Proofs.Ytbljihhelladbaa.Fld Go.Proofs.Ytbljihhelladbaa.sh
/-- a share: its holder's octets, its place, its values -/
structure Sh where
  h : List Int
  x : Int
  y : List Int
/-- its cells -/
def Sh.cs (s : Sh) : List Value := s.h.map (Value.int .u8) ++ (Value.int .i64 s.x :: s.y.map (Value.int .u16))
structure Sh.Ok (s : Sh) : Prop where
  hl : s.h.length = 16
  yl : s.y.length = 32
  hb : ∀ c ∈ s.h, 0 ≤ c ∧ c ≤ 255
  yb : ∀ c ∈ s.y, 0 ≤ c ∧ c ≤ 65535
  xb : -9223372036854775808 ≤ s.x ∧ s.x ≤ 9223372036854775807
def nil : Sh := ⟨[], 0, []⟩
theorem Sh.Ok.csl {s : Sh} (h : s.Ok) : s.cs.length = 49 := by
  unfold Sh.cs
  simp [h.hl, h.yl]
def badY (s : Sh) : Bool := s.y.any fun n => decide (257 ≤ n)
def same (s t : Sh) : Bool := t.x == s.x || t.h == s.h
def xsOf (l : List Sh) : List Int := l.map (·.x)
def ysOf (l : List Sh) (o : Nat) : List Int := l.map fun s => s.y.getD o 0
theorem xsOf_take (l : List Sh) (n : Nat) : xsOf (l.take n) = (xsOf l).take n := by simp [xsOf]
theorem ysOf_take (l : List Sh) (o n : Nat) : ysOf (l.take n) o = (ysOf l o).take n := by simp [ysOf]
/-- good shares: what the polynomials need -/
structure Good (l : List Sh) : Prop where
  rx : Rng (xsOf l)
  ry : ∀ o, Rng (ysOf l o)
  ap : ApartTo (xsOf l) (xsOf l).length
theorem Rng.take {l : List Int} (h : Rng l) (n : Nat) : Rng (l.take n) := fun c hc => h c (List.mem_of_mem_take hc)
theorem Good.take {l : List Sh} (h : Good l) (n : Nat) : Good (l.take n) := by
  refine ⟨by rw [xsOf_take]; exact Rng.take h.rx n, fun o => by rw [ysOf_take]; exact Rng.take (h.ry o) n, ?_⟩
  intro i j hij hj
  rw [xsOf_take] at hj ⊢
  rw [List.length_take] at hj
  have e : ∀ i, i < n → ((xsOf l).take n).getD i 0 = (xsOf l).getD i 0 := fun i hi => by simp [List.getD_eq_getElem?_getD, hi]
  rw [e i (by omega), e j (by omega)]
  exact h.ap i j hij (by omega)
/-- the polynomial of an octet, and its value -/
def polyOf (l : List Sh) (o : Nat) : List Int := through (xsOf l) (ysOf l o)
def valAt (l : List Sh) (o : Nat) (t : Int) : Int := atR (xsOf l) (ysOf l o) t
theorem Good.val {l : List Sh} (h : Good l) (o : Nat) (t : Int) : ev (polyOf l o) t % 257 = valAt l o t :=
  (atR_interp h.ap (through_interp _ _ h.ap) t).symm
end Go.Proofs.Ytbljihhelladbaa.shr
namespace Go.Proofs.Ytbljihhelladbaa.opn
set_option linter.unusedSimpArgs false
set_option linter.unusedVariables false
open Go.ChangeShapes Go.WideShapes Go.ChangeAt Go.RowKit
theorem bulk_lits {H : Type} (k : IntKind) (l : List Int) : Rows.uptoBulkAll (lits (H := H) k l) = l.length := by
  induction l with
  | nil => rfl
  | cons n l ih =>
    show Rows.uptoBulk _ + Rows.uptoBulkAll (lits (H := H) k l) = _
    rw [ih]
    show 1 + l.length = _
    simp; omega
/-- what a slice of integers is, behind the law's form -/
structure IntsAt {H : Type} (P : Program) (W : World) (k : IntKind) (v : Value) (d : DataW H) (l : List Int) (ao : Option Addr) (cap : Nat) : Prop where
  val : v = .slice ao l.length cap
  le : l.length ≤ cap
  row : RowI k W ao l
  none : ao = none → cap = 0 ∧ l.length = 0
  bulk : l.length ≤ Rows.uptoBulk d
  wf : ∀ n ∈ l, (Lit.int k n).wf = true
theorem lt_of_cell' {w : World} {a : Addr} {u : Value} (h : w.cell? a = some u) : a.block < w.heap.size := by
  unfold World.cell? at h
  by_cases hb : a.block < w.heap.size
  · exact hb
  · simp [Array.getElem?_eq_none (by omega : w.heap.size ≤ a.block)] at h
theorem ints {H : Type} {enc : TypeId × Value → H} {P : Program} {W : World} {base : Nat} {held : Bool} {r : Reach} {b0 : Nat} {t e : TypeId} {k : IntKind} {v : Value} {d : DataW H} {ps : List MemPlace}
    (ht : P.underlying t = some (.slice e)) (he : P.underlying e = some (.int k)) (hc : P.cellsOf e = 1) (hval : Value.okWide P W r b0 t v) (hd : DataW.Trod enc P W base (fun _ => true) held t v d ps) :
    ∃ l ao cap, IntsAt P W k v d l ao cap := by
  obtain ⟨a, len, cap, rfl⟩ := okWide_slice ht hval
  obtain ⟨fuel, hf⟩ := hd
  rcases open_ints ht he hc hf with ⟨h1, h2⟩ | ⟨ad, ln, cp, zs, h1, h2, h3, h4, h5, h6, h7, h8⟩
  · simp [Value.cells] at h1
    obtain ⟨rfl, rfl, rfl⟩ := h1
    exact ⟨[], none, 0, ⟨rfl, Nat.le_refl _, RowI.nil _ _ _, fun _ => ⟨rfl, rfl⟩, Nat.zero_le _, fun n hn => by cases hn⟩⟩
  · simp [Value.cells] at h1
    obtain ⟨rfl, rfl, rfl⟩ := h1
    simp only [if_true] at h5
    have hlen : (zs.take len).length = len := by rw [List.length_take]; omega
    have hx : d = .slice (lits k (zs.take len)) (lits k (zs.drop len)) := congrArg Prod.fst h6
    refine ⟨zs.take len, some ad, cap, ⟨by rw [hlen], by omega, ?_, (fun h => by cases h), ?_, fun n hn => h8 n (List.mem_of_mem_take hn)⟩⟩
    · by_cases hl : len = 0
      · exact Or.inl (by subst hl; simp)
      · obtain ⟨b, off, rfl, hcl⟩ := ints_at h7 (by omega)
        have hb := lt_of_cell' (hcl 0 (by omega))
        refine Or.inr ⟨b, off, rfl, hb, fun i hi => ?_⟩
        rw [hlen] at hi
        rw [hcl i (by omega)]
        simp [List.getD_eq_getElem?_getD, hi]
    · rw [hx]
      show _ ≤ Rows.uptoBulkAll (lits k (zs.take len)) + Rows.uptoBulkAll (lits k (zs.drop len)) + 1
      rw [bulk_lits]; omega
end Go.Proofs.Ytbljihhelladbaa.opn
namespace Go.Proofs.Ytbljihhelladbaa.shr
set_option linter.unusedSimpArgs false
set_option linter.unusedVariables false
open Go.RowKit Go.ChangeShapes Go.WideShapes Go.ChangeAt
/-- behind the address lie these shares -/
def RowS (w : World) (ao : Option Addr) (l : List Sh) : Prop :=
  l = [] ∨ ∃ b off, ao = some ⟨b, off, none⟩ ∧ b < w.heap.size ∧ ∀ i, i < l.length → At w ⟨b, off + i * 49, none⟩ (l.getD i nil).cs
theorem RowS.at {w : World} {ao : Option Addr} {l : List Sh} (h : RowS w ao l) {i : Nat} (hi : i < l.length) : ∃ b off, ao = some ⟨b, off, none⟩ ∧ b < w.heap.size ∧ ∀ i, i < l.length → At w ⟨b, off + i * 49, none⟩ (l.getD i nil).cs := by
  rcases h with h | h
  · subst h; simp at hi
  · exact h
/-- one share, under a name of its own -/
theorem RowS.elem {w : World} {ao : Option Addr} {l : List Sh} (h : RowS w ao l) {i : Nat} (hi : i < l.length) :
    ∃ b off s, ao = some ⟨b, off, none⟩ ∧ b < w.heap.size ∧ Hid (s = l.getD i nil) ∧ At w ⟨b, off + i * 49, none⟩ s.cs := by
  obtain ⟨b, off, h1, h2, h3⟩ := h.at hi
  exact ⟨b, off, _, h1, h2, rfl, h3 i hi⟩
theorem At.below {w w' : World} {a : Addr} {cs : List Value} (h : At w a cs) (hb : Below w.heap.size w w') (ha : a.block < w.heap.size) : At w' a cs := by
  intro j u hu
  have e : (a.add j).block = a.block := by unfold Addr.add; split <;> rfl
  rw [hb.cell (p := a.add j) (by rw [e]; exact ha)]
  exact h j u hu
theorem RowS.below {w w' : World} {ao : Option Addr} {l : List Sh} (h : RowS w ao l) (hb : Below w.heap.size w w') : RowS w' ao l := by
  rcases h with h | ⟨b, off, h1, h2, h3⟩
  · exact Or.inl h
  · exact Or.inr ⟨b, off, h1, Nat.lt_of_lt_of_le h2 hb.size, fun i hi => At.below (h3 i hi) hb h2⟩
theorem RowS.take {w : World} {ao : Option Addr} {l : List Sh} (h : RowS w ao l) (n : Nat) : RowS w ao (l.take n) := by
  rcases h with h | ⟨b, off, h1, h2, h3⟩
  · exact Or.inl (by simp [h])
  · refine Or.inr ⟨b, off, h1, h2, fun i hi => ?_⟩
    rw [List.length_take] at hi
    have e : (l.take n).getD i nil = l.getD i nil := by simp [List.getD_eq_getElem?_getD, List.getElem?_take, show i < n by omega]
    rw [e]
    exact h3 i (by omega)
theorem RowS.drew {w : World} {ao : Option Addr} {l : List Sh} (h : RowS w ao l) : RowS w.drew ao l := h
theorem RowS.drewN {w : World} {ao : Option Addr} {l : List Sh} (h : RowS w ao l) (n : Nat) : RowS (w.drewN n) ao l := h
section
variable {H : Type} {enc : TypeId × Value → H} {P : Program} {w : World} {base : Nat} {spare : Nat → Bool} {held : Bool}
theorem arr_of_trod {t e : TypeId} {n fuel : Nat} {q : IntKind} {cs : List Value} {x : DataW H × List MemPlace} (ht : P.underlying t = some (.array n e)) (he : P.underlying e = some (.int q)) (hc : P.cellsOf e = 1) (hct : P.cellsOf t = n)
    (hf : DataW.trod enc P w base spare held fuel t cs = some x) : ∃ l : List Int, cs = l.map (Value.int q) ∧ l.length = n ∧ ∀ c ∈ l, (Lit.int q c).wf = true := by
  obtain ⟨xs, m, rfl, _, h1, h2, h3⟩ := DataW.trod_array ht hf
  rw [hct] at h1
  have h4 : ∀ i, i < n → ∃ c : Int, cs[i]? = some (.int q c) ∧ (Lit.int q c).wf = true := by
    intro i hi
    have h5 := h3 i hi
    rw [hc, Nat.mul_one, List.getElem?_eq_getElem (by omega)] at h5
    have hcs : (cs.drop i).take 1 = [cs[i]'(by omega)] := by
      rw [List.drop_eq_getElem_cons (by omega)]
      rfl
    rw [hcs] at h5
    obtain ⟨c, hcc, _, hw⟩ := DataW.trod_int he h5
    simp only [List.cons.injEq, and_true] at hcc
    exact ⟨c, by rw [List.getElem?_eq_getElem (by omega), hcc], hw⟩
  refine ⟨cs.map fun u => match u with | .int _ c => c | _ => 0, ?_, by rw [List.length_map]; exact h1, ?_⟩
  · rw [List.map_map]
    symm
    apply List.ext_getElem
    · simp
    · intro i hi1 hi2
      obtain ⟨c, h6, _⟩ := h4 i (by omega)
      rw [List.getElem?_eq_getElem (by omega)] at h6
      simp only [Option.some.injEq] at h6
      simp [h6]
  · intro c hc'
    obtain ⟨u, hu, rfl⟩ := List.mem_map.1 hc'
    obtain ⟨i, hi, rfl⟩ := List.getElem_of_mem hu
    obtain ⟨c, h6, h7⟩ := h4 i (by omega)
    rw [List.getElem?_eq_getElem hi] at h6
    simp only [Option.some.injEq] at h6
    rw [h6]
    exact h7
end
set_option maxRecDepth 100000 in
theorem shareCells {H : Type} {enc : TypeId × Value → H} {w : World} {base : Nat} {spare : Nat → Bool} {held : Bool} {fuel : Nat} {cs : List Value} {x : DataW H × List MemPlace}
    (h : DataW.trod enc Try.prog w base spare held fuel 61 cs = some x) : ∃ s : Sh, s.Ok ∧ cs = s.cs := by
  obtain ⟨xs, n, rfl, _, h1, h2, h3⟩ := DataW.trod_struct Try.underlying61 h
  rw [show Try.prog.cellsOf 61 = 49 by kernel_rfl] at h1
  have g0 : DataW.trod enc Try.prog w base spare held n 57 ((cs.drop 0).take (Try.prog.cellsOf 57)) = xs[0]? := h3 0 _ rfl
  have g1 : DataW.trod enc Try.prog w base spare held n 3 ((cs.drop 16).take (Try.prog.cellsOf 3)) = xs[1]? := h3 1 _ rfl
  have g2 : DataW.trod enc Try.prog w base spare held n 59 ((cs.drop 17).take (Try.prog.cellsOf 59)) = xs[2]? := h3 2 _ rfl
  have hx : xs.length = 3 := h2
  rw [List.getElem?_eq_getElem (by omega)] at g0 g1 g2
  simp only [show Try.prog.cellsOf 57 = 16 by kernel_rfl, show Try.prog.cellsOf 3 = 1 by kernel_rfl, show Try.prog.cellsOf 59 = 32 by kernel_rfl] at g0 g1 g2
  obtain ⟨lh, e0, l0, w0⟩ := arr_of_trod Try.underlying57 Try.underlying5 (by kernel_rfl) (by kernel_rfl) g0
  obtain ⟨x1, e1, _, w1⟩ := DataW.trod_int Try.underlying3 g1
  obtain ⟨ly, e2, l2, w2⟩ := arr_of_trod Try.underlying59 Try.underlying58 (by kernel_rfl) (by kernel_rfl) g2
  refine ⟨⟨lh, x1, ly⟩, ⟨l0, l2, fun c hc => bounds_u8 (w0 c hc), fun c hc => bounds_u16 (w2 c hc), bounds_i64 w1⟩, ?_⟩
  unfold Sh.cs
  have e : cs = (cs.drop 0).take 16 ++ ((cs.drop 16).take 1 ++ (cs.drop 17).take 32) := by
    apply List.ext_getElem?
    intro i
    simp only [List.drop_zero, List.getElem?_append, List.length_take, List.length_drop, List.getElem?_take, List.getElem?_drop]
    split
    · rw [if_pos (by omega)]
    · split
      · rw [if_pos (by omega)]; congr 1; omega
      · by_cases hi : i < 49
        · rw [if_pos (by omega)]; congr 1; omega
        · rw [if_neg (by omega), List.getElem?_eq_none (by omega)]
  rw [e, e0, e1, e2]
  rfl
/-- what a slice of shares is, behind the law's form -/
structure SharesAt {H : Type} (W : World) (v : Value) (d : DataW H) (l : List Sh) (ao : Option Addr) (cap : Nat) : Prop where
  val : v = .slice ao l.length cap
  le : l.length ≤ cap
  row : RowS W ao l
  none : ao = none → cap = 0 ∧ l.length = 0
  ok : ∀ s ∈ l, s.Ok
  len : cap ≤ maxLen
set_option maxRecDepth 100000 in
theorem shares {H : Type} {enc : TypeId × Value → H} {W : World} {base : Nat} {held : Bool} {r : Reach} {b0 : Nat} {v : Value} {d : DataW H} {ps : List MemPlace}
    (hval : Value.okWide Try.prog W r b0 47 v) (hd : DataW.Trod enc Try.prog W base (fun _ => true) held 47 v d ps) :
    ∃ l ao cap, SharesAt W v d l ao cap := by
  obtain ⟨a, len, cap, rfl⟩ := okWide_slice Try.underlying47 hval
  obtain ⟨fuel, hf⟩ := hd
  rcases Go.Deep.open_slice Try.underlying47 hf with ⟨h1, h2⟩ | ⟨ad, ln, cp, m, n, D, Pl, h1, h3, h4, h5, h6, h7, h8⟩
  · simp [Value.cells] at h1
    obtain ⟨rfl, rfl, rfl⟩ := h1
    exact ⟨[], none, 0, ⟨rfl, Nat.le_refl _, Or.inl rfl, fun _ => ⟨rfl, rfl⟩, (fun s hs => by cases hs), by decide⟩⟩
  · simp [Value.cells] at h1
    obtain ⟨rfl, rfl, rfl⟩ := h1
    simp only [if_true] at h6
    subst h6
    rw [show Try.prog.cellsOf 61 = 49 by kernel_rfl] at h8
    have hs : ∀ i, i < m → ∃ s : Sh, s.Ok ∧ At W (ad.add (i * 49)) s.cs := by
      intro i hi
      obtain ⟨cs', hc, ht⟩ := h8 i hi
      obtain ⟨s, hok, rfl⟩ := shareCells ht
      obtain ⟨_, hcl, hat⟩ := World.cells?_some hc
      refine ⟨s, hok, fun j u hu => ?_⟩
      have hj : j < 49 := by rw [← hcl]; exact (List.getElem?_eq_some_iff.1 hu).1
      rw [hat j hj, hu]
    have hs' : ∃ f : Nat → Sh, ∀ i, i < m → (f i).Ok ∧ At W (ad.add (i * 49)) (f i).cs := by
      refine ⟨fun i => if h : i < m then Classical.choose (hs i h) else nil, fun i hi => ?_⟩
      simp only [dif_pos hi]
      exact Classical.choose_spec (hs i hi)
    obtain ⟨f, hf2⟩ := hs'
    have hlen : ((List.range len).map f).length = len := by simp
    refine ⟨(List.range len).map f, some ad, m, ⟨by rw [hlen], by rw [hlen]; exact h4, ?_, (fun h => by cases h), ?_, h5⟩⟩
    · by_cases hl : len = 0
      · exact Or.inl (by subst hl; rfl)
      · have c0 := (hf2 0 (by omega)).2
        have hcs : (f 0).cs[0]? = some ((f 0).cs[0]'(by rw [(hf2 0 (by omega)).1.csl]; omega)) := List.getElem?_eq_getElem _
        have c1 := c0 0 _ hcs
        obtain ⟨b, off, spot⟩ := ad
        have hspot : spot = none := by simpa [Addr.add] using World.cell?_spot c1
        subst hspot
        have c2 : W.cell? ⟨b, off, none⟩ = some ((f 0).cs[0]'(by rw [(hf2 0 (by omega)).1.csl]; omega)) := by simpa [Addr.add] using c1
        refine Or.inr ⟨b, off, rfl, opn.lt_of_cell' c2, fun i hi => ?_⟩
        rw [hlen] at hi
        have e : ((List.range len).map f).getD i nil = f i := by simp [List.getD_eq_getElem?_getD, hi]
        rw [e]
        have := (hf2 i (by omega)).2
        rwa [show (⟨b, off, none⟩ : Addr).add (i * 49) = ⟨b, off + i * 49, none⟩ by unfold Addr.add; split <;> simp_all] at this
    · intro s hs
      obtain ⟨i, hi, rfl⟩ := List.mem_map.1 hs
      exact (hf2 i (by have := List.mem_range.1 hi; omega)).1
end Go.Proofs.Ytbljihhelladbaa.shr
namespace Go.Proofs.Ytbljihhelladbaa.slInt
open Go.RowKit
set_option linter.unusedSimpArgs false
set_option linter.unusedVariables false
theorem info : Info Try.prog 3 (.int .i64 0) 1 8 := by unfold Info; kernel_rfl
theorem bel2 {w w1 w2 : World} {row : Option Nat} (h : Below w.heap.size w w1) (hg : w1.grownBy w2 row) (hr : ∀ k, row = some k → w.heap.size ≤ k) : Below w.heap.size w w2 := h.grown hg h.size hr
set_option maxRecDepth 100000 in
theorem Grow_nil (n : Nat) (w : World) (hn : n * 8 ≤ 140737488355328) :
    Calls Try.prog 95 #[.slice none 0 0, .int .i64 n] w fun e w' => ∃ v, e = .returned v ∧ Mine w' w.heap.size 3 1 v 0 [] ∧ Below w.heap.size w w' := by
  obtain ⟨i, hi, hz, hs, hb⟩ := info.parts
  by_cases h0 : 0 < n
  · have happ := fun w => Lib.run_append_nil_zeros (P := Try.prog) w 26 3 26 3 i (.int .i64 0) .i64 .i64 Try.underlying26 Try.underlying3 hi hz n h0 (by rw [hs]; decide) (by omega) (by rw [hb]; omega)
    have hge := grownCap_ge w n 0 3
    have hle := grownCap_le_maxLen w n 0 3 (by unfold maxLen; omega)
    obtain ⟨C, HC⟩ : ∃ C, Hid (C = grownCap w n 0 3) := ⟨_, rfl⟩
    have happ0 := happ w
    rw [← HC.out] at happ0 hge hle
    have HLE := hid hle
    have HAPP := hid happ0
    clear happ hle happ0 hi hz hs hb
    go_enter Try.func95, Try.ntmps95
    go_wp2_with (at_builtin; refine Lib.wpList_append_run _ rfl _ _ _ _ rfl _ _ rfl rfl _ _ HAPP.out ?_)
    go_ret
    refine ⟨_, rfl, Or.inl ⟨by simp, Or.inr ⟨w.heap.size, C, _, rfl, Nat.le_refl _, heap_alloc_new w.drew _, Nat.zero_le _, HLE.out, ?_, by simp⟩⟩, ((Below.refl _ _).drew).alloc (by simp) _⟩
    simp [Builtin.zeroCells, Value.cells]
    omega
  · obtain rfl : n = 0 := by omega
    go_enter Try.func95, Try.ntmps95
    go_wp2
    go_ret
    exact ⟨_, rfl, Mine.nil _ _ _ _, Below.refl _ _⟩
/-- a part of Concat: a slice and its cells -/
structure Part where
  ao : Option Addr
  n : Nat
  cap : Nat
  cells : List Value
def Part.val (p : Part) : Value := .slice p.ao p.n p.cap
def Part.ok (w : World) (p : Part) : Prop := RowV w p.ao p.cells ∧ p.cells.length = p.n * 1 ∧ (∀ u ∈ p.cells, u.oneCell' = true) ∧ (p.ao = none → p.cap = 0)
def noPart : Part := ⟨none, 0, 0, []⟩
def sumN : List Part → Nat
  | [] => 0
  | p :: l => p.n + sumN l
def flat : List Part → List Value
  | [] => []
  | p :: l => p.cells ++ flat l
theorem sumN_append (l m : List Part) : sumN (l ++ m) = sumN l + sumN m := by
  induction l with
  | nil => simp [sumN]
  | cons p l ih => simp [sumN, ih]; omega
theorem flat_append (l m : List Part) : flat (l ++ m) = flat l ++ flat m := by
  induction l with
  | nil => rfl
  | cons p l ih => simp [flat, ih]
theorem sumN_take (l : List Part) (k : Nat) (hk : k < l.length) : sumN (l.take (k + 1)) = sumN (l.take k) + (l.getD k noPart).n := by
  rw [List.take_succ_eq_append_getElem hk, sumN_append, getD_lt' l noPart hk]; simp [sumN]
theorem flat_take (l : List Part) (k : Nat) (hk : k < l.length) : flat (l.take (k + 1)) = flat (l.take k) ++ (l.getD k noPart).cells := by
  rw [List.take_succ_eq_append_getElem hk, flat_append, getD_lt' l noPart hk]; simp [flat]
theorem sumN_le (l : List Part) (k : Nat) : sumN (l.take k) ≤ sumN l := by
  conv => rhs; rw [← List.take_append_drop k l]
  rw [sumN_append]; omega
/-- where the parts lie -/
def Parts (w : World) (ps : List Part) (po : Addr) : Prop := po.spot = none ∧ po.block < w.heap.size ∧ ∀ k, k < ps.length → w.cell? ⟨po.block, po.off + k, none⟩ = some (ps.getD k noPart).val
theorem Parts.below {w w' : World} {ps : List Part} {po : Addr} (h : Parts w ps po) (hb : Below w.heap.size w w') : Parts w' ps po :=
  ⟨h.1, Nat.lt_of_lt_of_le h.2.1 hb.size, fun k hk => by rw [hb.cell (p := ⟨po.block, po.off + k, none⟩) h.2.1]; exact h.2.2 k hk⟩
set_option maxHeartbeats 1000000 in
theorem Concat_any (ps : List Part) (pb po pc : Nat) (w : World) (hp : Parts w ps ⟨pb, po, none⟩) (hok : ∀ p ∈ ps, p.ok w) (hb : sumN ps * 8 ≤ 140737488355328) (hn : ps.length ≤ 1000000) :
    Calls Try.prog 26 #[.slice (some ⟨pb, po, none⟩) ps.length pc] w fun e w' => ∃ v, e = .returned v ∧ Mine w' w.heap.size 3 1 v (sumN ps) (flat ps) ∧ Below w.heap.size w w' := by
  go_enter Try.func26, Try.ntmps26
  go_wp2
  go_loop [3, 11] (fun s i => ∃ k z : Nat, k ≤ ps.length ∧ i = .int .i64 k ∧ s = .int .i64 z ∧ Hid (z = sumN (ps.take k))) (fun _ i => ps.length - (intOf i).toNat)
  case atStart => exact ⟨0, 0, Nat.zero_le _, rfl, rfl, rfl⟩
  case round =>
    obtain ⟨k, z, hk, rfl, rfl, HZ⟩ := hrel
    have hz := sumN_le ps k
    rw [← HZ.out] at hz
    by_cases h0 : k < ps.length
    · obtain ⟨p, HP⟩ : ∃ p, Hid (p = ps.getD k noPart) := ⟨_, rfl⟩
      have hc := hp.2.2 k h0
      rw [← HP.out] at hc
      unfold Part.val at hc
      have hz1 := sumN_le ps (k + 1)
      rw [sumN_take ps k h0, ← HP.out, ← HZ.out] at hz1
      go_wp2
      go_round
      case rel => exact ⟨k + 1, z + p.n, by omega, by go_num, by go_num, by show z + p.n = _; rw [sumN_take ps k h0, ← HP.out, HZ.out]⟩
      case measure => simp [intOf] <;> omega
    · have HE : Hid (sumN ps = z) := by show sumN ps = z; rw [HZ.out, List.take_of_length_le (by omega)]
      go_wp2_with fail
      refine (Grow_nil z w (by omega)).mono ?_
      rintro e w1 ⟨v, rfl, hM, hbl⟩
      go_wp2_with fail
      go_loopw [6, 27] (fun s i wr => ∃ k : Nat, k ≤ ps.length ∧ i = .int .i64 k ∧ Mine wr w.heap.size 3 1 s (sumN (ps.take k)) (flat (ps.take k)) ∧ Below w.heap.size w wr) (fun _ i _ => ps.length - (intOf i).toNat)
      case atStart => exact ⟨0, Nat.zero_le _, rfl, hM, hbl⟩
      case round =>
        rename_i sv _
        obtain ⟨j, hj, rfl, hMj, hbj⟩ := hrel
        by_cases h1 : j < ps.length
        · obtain ⟨p, HP⟩ : ∃ p, Hid (p = ps.getD j noPart) := ⟨_, rfl⟩
          have hc := (hp.below hbj).2.2 j h1
          rw [← HP.out] at hc
          unfold Part.val at hc
          have hpo := hok p (by rw [HP.out, getD_lt' ps noPart h1]; exact List.getElem_mem h1)
          obtain ⟨q1, q2, q3, q4⟩ := hpo
          have Q2 := hid q2
          have hz1 := sumN_le ps (j + 1)
          rw [sumN_take ps j h1, ← HP.out] at hz1
          have hrow := q1.below hbj
          have HT : Hid (sumN (ps.take (j + 1)) = sumN (ps.take j) + p.n ∧ flat (ps.take (j + 1)) = flat (ps.take j) ++ p.cells) := ⟨by rw [sumN_take ps j h1, HP.out], by rw [flat_take ps j h1, HP.out]⟩
          obtain ⟨sn, SN⟩ : ∃ sn, Hid (sn = sumN (ps.take j)) := ⟨_, rfl⟩
          rw [← SN.out] at hMj hz1 HT
          have hsz := hbj.size
          clear q1 q2
          go_wp2_with (at_builtin; refine wl_append rfl _ _ 26 rfl 3 (.int .i64 0) 1 8 Try.underlying26 info rfl (by decide) w.heap.size _ sn _ rfl hMj p.ao p.n p.cap rfl q4 p.cells Q2.out hrow q3 (by unfold maxLen; omega) (by omega) hsz ?_; intro v' w' row hM' hg' hrow')
          go_roundw
          case rel => exact ⟨j + 1, by omega, by go_num, by rw [HT.out.1, HT.out.2]; exact hM', bel2 hbj hg' fun k hk => (hrow' k hk).1⟩
          case measure => simp [intOf] <;> omega
        · have HE2 : Hid (ps.take j = ps) := List.take_of_length_le (by omega)
          go_wp2
          go_ret
          rw [HE2.out] at hMj
          exact ⟨_, rfl, hMj, hbj⟩
/-- two parts -/
theorem Concat_two (p q : Part) (g : Nat) (w : World) (hg : w.heap[g]? = some (.cells #[p.val, q.val] 26 (0, 0))) (hp : p.ok w) (hq : q.ok w) (hb : (p.n + q.n) * 8 ≤ 140737488355328) :
    Calls Try.prog 26 #[.slice (some ⟨g, 0, none⟩) 2 2] w fun e w' => ∃ v, e = .returned v ∧ Mine w' w.heap.size 3 1 v (p.n + q.n) (p.cells ++ q.cells) ∧ Below w.heap.size w w' := by
  have h := Concat_any [p, q] g 0 2 w ⟨rfl, lt_of_block hg, fun k hk => ?_⟩ ?_ ?_ (by simp)
  · simpa [sumN, flat] using h
  · simp only [List.length_cons, List.length_nil] at hk
    rw [Nat.zero_add, cell_of_row w g k _ _ _ hg]
    match k, hk with
    | 0, _ => rfl
    | 1, _ => rfl
  · intro r hr
    simp at hr
    rcases hr with rfl | rfl
    · exact hp
    · exact hq
  · simpa [sumN] using hb
/-- the first place at which p says yes; -1: there is none -/
def findI {α : Type} (p : α → Bool) : List α → Nat → Int
  | [], _ => -1
  | x :: l, i => if p x then (i : Int) else findI p l (i + 1)
theorem findI_drop {α : Type} (p : α → Bool) (l : List α) (d : α) (k : Nat) (hk : k < l.length) : findI p (l.drop k) k = if p (l.getD k d) then (k : Int) else findI p (l.drop (k + 1)) (k + 1) := by
  have e : l.drop k = l[k] :: l.drop (k + 1) := List.drop_eq_getElem_cons hk
  rw [e, getD_lt' l d hk]
  rfl
theorem findI_any {α : Type} (p : α → Bool) (l : List α) (i : Nat) : decide (0 ≤ findI p l i) = l.any p := by
  induction l generalizing i with
  | nil => simp [findI]
  | cons x l ih =>
    unfold findI
    by_cases h : p x = true
    · simp [h]
    · simp [h, ih (i + 1)]
end Go.Proofs.Ytbljihhelladbaa.slInt
namespace Go.Proofs.Ytbljihhelladbaa.shr
set_option linter.unusedVariables false
open Go.RowKit
set_option linter.unusedSimpArgs false
theorem bad1 (n : Int) (w : World) (hn : 0 ≤ n ∧ n ≤ 65535) : Calls Try.prog 161 #[.int .u16 n] w fun e w' => e = .returned (.bool (decide (257 ≤ n))) ∧ w = w' := by
  by_cases h : 257 ≤ n
  · go_enter Try.func161, Try.ntmps161
    go_wp2
    go_ret
    exact ⟨rv (rb (by simp [h])), rfl⟩
  · go_enter Try.func161, Try.ntmps161
    go_wp2
    go_ret
    exact ⟨rv (rb (by simp [h])), rfl⟩
theorem bad2 (ao : Option Addr) (cap : Nat) (l : List Int) (w : World) (hr : RowI .u16 w ao l) (hn : l.length ≤ 4611686018427387904) (hl : ∀ c ∈ l, 0 ≤ c ∧ c ≤ 65535) :
    Calls Try.prog 201 #[.slice ao l.length cap, .func (.func 161) #[] #[]] w fun e w' => e = .returned (.int .i64 (slInt.findI (fun n => decide (257 ≤ n)) l 0)) ∧ w = w' := by
  go_enter Try.func201, Try.ntmps201
  go_wp2
  go_loop [5, 8] (fun _ i => ∃ k : Nat, k ≤ l.length ∧ i = .int .i64 k ∧ Hid (slInt.findI (fun n => decide (257 ≤ n)) (l.drop k) k = slInt.findI (fun n => decide (257 ≤ n)) l 0)) (fun _ i => l.length - (intOf i).toNat)
  case atStart => exact ⟨0, Nat.zero_le _, rfl, rfl⟩
  case round =>
    obtain ⟨k, hk, rfl, HA⟩ := hrel
    by_cases h0 : k < l.length
    · obtain ⟨b, off, c, rfl, hb, HC, hcell⟩ := hr.elem (i := k) h0
      have HD := slInt.findI_drop (fun n => decide (257 ≤ n)) l 0 k h0
      rw [← HC.out, HA.out] at HD
      replace HD := hid HD
      have hcb : 0 ≤ c ∧ c ≤ 65535 := by rw [HC.out, getD_lt' l 0 h0]; exact hl _ (List.getElem_mem h0)
      clear hl
      cases hc : decide (257 ≤ c)
      · have HN := hid hc
        have HF := hid (bad1 c w hcb)
        rw [hc] at HF
        clear hc
        go_wp2_with (go_at_call 161; refine HF.out.mono ?_; rintro e w1 ⟨rfl, rfl⟩)
        go_round
        case rel => exact ⟨k + 1, by omega, by go_num, by show _ = _; rw [HD.out, if_neg (by rw [HN.out]; simp)]⟩
        case measure => simp [intOf] <;> omega
      · have HN := hid hc
        have HF := hid (bad1 c w hcb)
        rw [hc] at HF
        clear hc
        go_wp2_with (go_at_call 161; refine HF.out.mono ?_; rintro e w1 ⟨rfl, rfl⟩)
        go_ret
        exact ⟨rv (ri (by rw [HD.out, if_pos HN.out])), rfl⟩
    · go_wp2
      go_ret
      exact ⟨rv (ri (by rw [← HA.out, List.drop_eq_nil_of_le (by omega)]; rfl)), rfl⟩
theorem bad3 (ao : Option Addr) (cap : Nat) (l : List Int) (w : World) (hr : RowI .u16 w ao l) (hn : l.length ≤ 4611686018427387904) (hl : ∀ c ∈ l, 0 ≤ c ∧ c ≤ 65535) :
    Calls Try.prog 160 #[.slice ao l.length cap, .func (.func 161) #[] #[]] w fun e w' => e = .returned (.bool (l.any fun n => decide (257 ≤ n))) ∧ w = w' := by
  have HF := hid (slInt.findI_any (fun n => decide (257 ≤ n)) l 0)
  have HI := hid (bad2 ao cap l w hr hn hl)
  clear hl
  go_enter Try.func160, Try.ntmps160
  go_wp2_with (go_at_call 201; refine HI.out.mono ?_; rintro e w1 ⟨rfl, rfl⟩)
  go_ret
  exact ⟨rv (rb HF.out), rfl⟩
theorem cs_x (s : Sh) (hs : s.Ok) : s.cs[16]? = some (.int .i64 s.x) := by
  unfold Sh.cs
  rw [List.getElem?_append_right (by simp [hs.hl])]
  simp [hs.hl]
theorem cs_yi (s : Sh) (hs : s.Ok) (i : Nat) (hi : i < 32) : s.cs[17 + i]? = some (.int .u16 (s.y.getD i 0)) := by
  unfold Sh.cs
  rw [List.getElem?_append_right (by simp [hs.hl]; omega)]
  have e : 17 + i - (s.h.map (Value.int .u8)).length = i + 1 := by simp [hs.hl]; omega
  rw [e, List.getElem?_cons_succ, List.getElem?_map, List.getElem?_eq_getElem (by rw [hs.yl]; exact hi), getD_lt' s.y 0 (by rw [hs.yl]; exact hi)]
  rfl
theorem cs_hi (s : Sh) (hs : s.Ok) (i : Nat) (hi : i < 16) : s.cs[i]? = some (.int .u8 (s.h.getD i 0)) := by
  unfold Sh.cs
  rw [List.getElem?_append_left (by simp [hs.hl]; omega), List.getElem?_map, List.getElem?_eq_getElem (by rw [hs.hl]; exact hi), getD_lt' s.h 0 (by rw [hs.hl]; exact hi)]
  rfl
theorem cs_one (s : Sh) : ∀ u ∈ s.cs, u.oneCell' = true := by
  intro u hu
  unfold Sh.cs at hu
  simp only [List.mem_append, List.mem_cons, List.mem_map] at hu
  rcases hu with ⟨c, _, rfl⟩ | rfl | ⟨c, _, rfl⟩ <;> rfl
/-- the values of a share that lies in a block, as a row -/
theorem row_y {w : World} {t : TypeId} {g : Nat} (s : Sh) (hs : s.Ok) (h : BlkV t w g s.cs) : RowI .u16 w (some ⟨g, 17, none⟩) s.y := by
  refine Or.inr ⟨g, 17, rfl, h.lt, fun i hi => ?_⟩
  rw [h.cell, cs_yi s hs i (by rw [← hs.yl]; exact hi)]
theorem badValues_any (s : Sh) (hs : s.Ok) (w : World) :
    Calls Try.prog 111 #[.agg s.cs.toArray] w fun e w' => e = .returned (.bool (badY s)) ∧ Below w.heap.size w w' := by
  have hB : BlkV 61 (w.alloc (.cells s.cs.toArray 61)) w.heap.size s.cs := BlkV.new _ _ _ rfl
  have HR := hid (bad3 (some ⟨w.heap.size, 17, none⟩) 32 s.y _ (row_y s hs hB) (by rw [hs.yl]; decide) hs.yb)
  rw [hs.yl] at HR
  have HL : Hid (s.cs.length = 49) := hs.csl
  generalize s.cs = S at *
  go_enter Try.func111, Try.ntmps111
  go_wp2_with (go_at_call 160; refine HR.out.mono ?_; rintro e w1 ⟨rfl, rfl⟩)
  go_ret
  exact ⟨rfl, (Below.refl _ _).alloc (Nat.le_refl _) _⟩
end Go.Proofs.Ytbljihhelladbaa.shr
namespace Go.Proofs.Ytbljihhelladbaa.shr
set_option linter.unusedVariables false
open Go.RowKit Go.Maps Go.WideMaps Go.Proofs.Ytbljihhelladbaa.sh Go.Proofs.Ytbljihhelladbaa.mp
set_option linter.unusedSimpArgs false
theorem outside_any (m lo hi : Int) (w : World) : Calls Try.prog 86 #[.int .i64 m, .int .i64 lo, .int .i64 hi] w fun e w' => e = .returned (.bool (!inB m lo hi)) ∧ w = w' := by
  by_cases h1 : m < lo
  · go_enter Try.func86, Try.ntmps86
    go_wp2
    go_ret
    exact ⟨rv (rb (by simp [inB] <;> omega)), rfl⟩
  · by_cases h2 : hi < m
    · go_enter Try.func86, Try.ntmps86
      go_wp2
      go_ret
      exact ⟨rv (rb (by simp [inB] <;> omega)), rfl⟩
    · go_enter Try.func86, Try.ntmps86
      go_wp2
      go_ret
      exact ⟨rv (rb (by simp [inB] <;> omega)), rfl⟩
theorem aggS : Agg Try.prog 61 49 := Agg.str Try.underlying61 (by kernel_rfl)
theorem aggID : Agg Try.prog 57 16 := Agg.arr Try.underlying57 (by kernel_rfl)
theorem aggY : Agg Try.prog 59 32 := Agg.arr Try.underlying59 (by kernel_rfl)
theorem at_h {w : World} {t : TypeId} {g : Nat} {s : Sh} (hs : s.Ok) (h : BlkV t w g s.cs) : At w ⟨g, 0, none⟩ (s.h.map (Value.int .u8)) := by
  refine h.at 0 _ fun j u hu => ?_
  have hj : j < 16 := by have := (List.getElem?_eq_some_iff.1 hu).1; rw [List.length_map, hs.hl] at this; exact this
  rw [Nat.zero_add, cs_hi s hs j hj, ← hu, List.getElem?_map, List.getElem?_eq_getElem (by rw [hs.hl]; exact hj), getD_lt' s.h 0 (by rw [hs.hl]; exact hj)]
  rfl
theorem at_y {w : World} {t : TypeId} {g : Nat} {s : Sh} (hs : s.Ok) (h : BlkV t w g s.cs) : At w ⟨g, 17, none⟩ (s.y.map (Value.int .u16)) := by
  refine h.at 17 _ fun j u hu => ?_
  have hj : j < 32 := by have := (List.getElem?_eq_some_iff.1 hu).1; rw [List.length_map, hs.yl] at this; exact this
  rw [cs_yi s hs j hj, ← hu, List.getElem?_map, List.getElem?_eq_getElem (by rw [hs.yl]; exact hj), getD_lt' s.y 0 (by rw [hs.yl]; exact hj)]
  rfl
end Go.Proofs.Ytbljihhelladbaa.shr
