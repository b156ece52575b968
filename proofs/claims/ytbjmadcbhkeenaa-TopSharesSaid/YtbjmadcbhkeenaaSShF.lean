/-
  Contract of share.badValues. No condition but the share's form. Sets that a call makes as maps to bools: what is in them, the look-up and the store at the operation. Keys: integers, arrays of integers. Conditions: fewer than 2^40 entries. Further laws at operations: loads under a guard, new variables and whole stores with the world behind them a letter, loads in a drawn region, look-ups under a guard. Conditions: what each names. Contracts of share.outside, eachFault and CheckShares: what is wrong with shares. Conditions: shares of the type's form, 2^40 at most. Contract of share.eachFault. Conditions: shares of the type's form, 32 at most.
-/
import Derived.Test.YtbjmadcbhkeenaaSShr
import Derived.Test.YtbjmadcbhkeenaaSMem
import Derived.Maps.OwnSet
import Derived.Maps.OwnOps
import Derived.DeepKeys4
import Derived.WideKeyArr2
import Derived.StillTailTactics
import Derived.Deep.RegionHeld3
import Derived.Deep.MidRow
namespace Go.Proofs.Ytbjmadcbhkeenaa.shr
set_option linter.unusedVariables false
open Go.RowKit
set_option linter.unusedSimpArgs false
theorem bad1 (n : Int) (w : World) (hn : 0 ≤ n ∧ n ≤ 65535) : Calls Try.prog 54 #[.int .u16 n] w fun e w' => e = .returned (.bool (decide (257 ≤ n))) ∧ w = w' := by
  by_cases h : 257 ≤ n
  · go_enter Try.func54, Try.ntmps54
    go_wp2
    go_ret
    exact ⟨rv (rb (by simp [h])), rfl⟩
  · go_enter Try.func54, Try.ntmps54
    go_wp2
    go_ret
    exact ⟨rv (rb (by simp [h])), rfl⟩
theorem bad2 (ao : Option Addr) (cap : Nat) (l : List Int) (w : World) (hr : RowI .u16 w ao l) (hn : l.length ≤ 4611686018427387904) (hl : ∀ c ∈ l, 0 ≤ c ∧ c ≤ 65535) :
    Calls Try.prog 65 #[.slice ao l.length cap, .func (.func 54) #[] #[]] w fun e w' => e = .returned (.int .i64 (slInt.findI (fun n => decide (257 ≤ n)) l 0)) ∧ w = w' := by
  go_enter Try.func65, Try.ntmps65
  go_wp2
  go_loop [5, 8] (fun _ i => ∃ k : Nat, k ≤ l.length ∧ i = .int .i64 k ∧ Hid (slInt.findI (fun n => decide (257 ≤ n)) (l.drop k) k = slInt.findI (fun n => decide (257 ≤ n)) l 0)) (fun _ i => l.length - (intOf i).toNat)
  case atStart => exact ⟨0, Nat.zero_le _, rfl, rfl⟩
  case round =>
    obtain ⟨k, hk, rfl, HA⟩ := hrel
    by_cases h0 : k < l.length
    · obtain ⟨b, off, c, rfl, hb, HC, hcell⟩ := hr.elem (i := k) h0
      have HD := slInt.findI_drop (fun n => decide (257 ≤ n)) l 0 k h0
      rw [← HC.out, HA.out] at HD
      replace HD := hid HD
      have hcb : 0 ≤ c ∧ c ≤ 65535 := by rw [HC.out, getD_lt' l 0 h0]; exact hl _ (List.getElem_mem h0)
      clear hl
      cases hc : decide (257 ≤ c)
      · have HN := hid hc
        have HF := hid (bad1 c w hcb)
        rw [hc] at HF
        clear hc
        go_wp2_with (go_at_call 54; refine HF.out.mono ?_; rintro e w1 ⟨rfl, rfl⟩)
        go_round
        case rel => exact ⟨k + 1, by omega, by go_num, by show _ = _; rw [HD.out, if_neg (by rw [HN.out]; simp)]⟩
        case measure => simp [intOf] <;> omega
      · have HN := hid hc
        have HF := hid (bad1 c w hcb)
        rw [hc] at HF
        clear hc
        go_wp2_with (go_at_call 54; refine HF.out.mono ?_; rintro e w1 ⟨rfl, rfl⟩)
        go_ret
        exact ⟨rv (ri (by rw [HD.out, if_pos HN.out])), rfl⟩
    · go_wp2
      go_ret
      exact ⟨rv (ri (by rw [← HA.out, List.drop_eq_nil_of_le (by omega)]; rfl)), rfl⟩
theorem bad3 (ao : Option Addr) (cap : Nat) (l : List Int) (w : World) (hr : RowI .u16 w ao l) (hn : l.length ≤ 4611686018427387904) (hl : ∀ c ∈ l, 0 ≤ c ∧ c ≤ 65535) :
    Calls Try.prog 53 #[.slice ao l.length cap, .func (.func 54) #[] #[]] w fun e w' => e = .returned (.bool (l.any fun n => decide (257 ≤ n))) ∧ w = w' := by
  have HF := hid (slInt.findI_any (fun n => decide (257 ≤ n)) l 0)
  have HI := hid (bad2 ao cap l w hr hn hl)
  clear hl
  go_enter Try.func53, Try.ntmps53
  go_wp2_with (go_at_call 65; refine HI.out.mono ?_; rintro e w1 ⟨rfl, rfl⟩)
  go_ret
  exact ⟨rv (rb HF.out), rfl⟩
theorem cs_x (s : Sh) (hs : s.Ok) : s.cs[16]? = some (.int .i64 s.x) := by
  unfold Sh.cs
  rw [List.getElem?_append_right (by simp [hs.hl])]
  simp [hs.hl]
theorem cs_yi (s : Sh) (hs : s.Ok) (i : Nat) (hi : i < 32) : s.cs[17 + i]? = some (.int .u16 (s.y.getD i 0)) := by
  unfold Sh.cs
  rw [List.getElem?_append_right (by simp [hs.hl]; omega)]
  have e : 17 + i - (s.h.map (Value.int .u8)).length = i + 1 := by simp [hs.hl]; omega
  rw [e, List.getElem?_cons_succ, List.getElem?_map, List.getElem?_eq_getElem (by rw [hs.yl]; exact hi), getD_lt' s.y 0 (by rw [hs.yl]; exact hi)]
  rfl
theorem cs_hi (s : Sh) (hs : s.Ok) (i : Nat) (hi : i < 16) : s.cs[i]? = some (.int .u8 (s.h.getD i 0)) := by
  unfold Sh.cs
  rw [List.getElem?_append_left (by simp [hs.hl]; omega), List.getElem?_map, List.getElem?_eq_getElem (by rw [hs.hl]; exact hi), getD_lt' s.h 0 (by rw [hs.hl]; exact hi)]
  rfl
theorem cs_one (s : Sh) : ∀ u ∈ s.cs, u.oneCell' = true := by
  intro u hu
  unfold Sh.cs at hu
  simp only [List.mem_append, List.mem_cons, List.mem_map] at hu
  rcases hu with ⟨c, _, rfl⟩ | rfl | ⟨c, _, rfl⟩ <;> rfl
/-- the values of a share that lies in a block, as a row -/
theorem row_y {w : World} {t : TypeId} {g : Nat} (s : Sh) (hs : s.Ok) (h : BlkV t w g s.cs) : RowI .u16 w (some ⟨g, 17, none⟩) s.y := by
  refine Or.inr ⟨g, 17, rfl, h.lt, fun i hi => ?_⟩
  rw [h.cell, cs_yi s hs i (by rw [← hs.yl]; exact hi)]
theorem badValues_any (s : Sh) (hs : s.Ok) (w : World) :
    Calls Try.prog 36 #[.agg s.cs.toArray] w fun e w' => e = .returned (.bool (badY s)) ∧ Below w.heap.size w w' := by
  have hB : BlkV 41 (w.alloc (.cells s.cs.toArray 41)) w.heap.size s.cs := BlkV.new _ _ _ rfl
  have HR := hid (bad3 (some ⟨w.heap.size, 17, none⟩) 32 s.y _ (row_y s hs hB) (by rw [hs.yl]; decide) hs.yb)
  rw [hs.yl] at HR
  have HL : Hid (s.cs.length = 49) := hs.csl
  generalize s.cs = S at *
  go_enter Try.func36, Try.ntmps36
  go_wp2_with (go_at_call 53; refine HR.out.mono ?_; rintro e w1 ⟨rfl, rfl⟩)
  go_ret
  exact ⟨rfl, (Below.refl _ _).alloc (Nat.le_refl _) _⟩
end Go.Proofs.Ytbjmadcbhkeenaa.shr
namespace Go.Proofs.Ytbjmadcbhkeenaa.mp
set_option linter.unusedSimpArgs false
set_option linter.unusedVariables false
open Go.RowKit Go.Maps Go.WideMaps
/-- block b is a map of at most n entries, true at just the keys of S -/
def SetAt (P : Program) (k e : TypeId) (w : World) (b n : Nat) (S : List Lit) : Prop :=
  ∃ D : DataW Unit, w.ownsMap P k (plainElem P e) b n D ∧ ∀ kl, KeysOf P k kl → ∃ r : Bool, D.atKey kl (.lit (.bool false)) = .lit (.bool r) ∧ (r = true ↔ kl ∈ S)
theorem SetAt.made (P : Program) (k e : TypeId) (w : World) : SetAt P k e (w.alloc (.map #[] 0)) w.heap.size 0 [] :=
  ⟨_, World.ownsMap_made w P k _, fun kl _ => ⟨false, by simp [DataW.atKey], by simp⟩⟩
theorem SetAt.lt {P : Program} {k e : TypeId} {w : World} {b n : Nat} {S : List Lit} (h : SetAt P k e w b n S) : b < w.heap.size := by
  obtain ⟨D, h, _⟩ := h
  exact h.lt
theorem SetAt.kept {P : Program} {k e : TypeId} {w w' : World} {b n : Nat} {S : List Lit} {row : Option Nat} (h : SetAt P k e w b n S) (hg : w.grownBy w' row) (hr : some b ≠ row) : SetAt P k e w' b n S := by
  obtain ⟨D, h, h2⟩ := h
  exact ⟨D, h.kept hg hr, h2⟩
theorem SetAt.alloc {P : Program} {k e : TypeId} {w : World} {b n : Nat} {S : List Lit} (h : SetAt P k e w b n S) (o : Obj) : SetAt P k e (w.alloc o) b n S := h.kept (World.grownBy_alloc w o none) (by simp)
theorem SetAt.drew {P : Program} {k e : TypeId} {w : World} {b n : Nat} {S : List Lit} (h : SetAt P k e w b n S) : SetAt P k e w.drew b n S := h
theorem SetAt.drewN {P : Program} {k e : TypeId} {w : World} {b n : Nat} {S : List Lit} (h : SetAt P k e w b n S) (m : Nat) : SetAt P k e (w.drewN m) b n S := h
theorem SetAt.below {P : Program} {k e : TypeId} {w w' : World} {b n : Nat} {S : List Lit} (h : SetAt P k e w b n S) (hb : Below w.heap.size w w') : SetAt P k e w' b n S := by
  obtain ⟨D, ⟨es, clock, h1, h2⟩, h3⟩ := h
  exact ⟨D, ⟨es, clock, by rw [hb.block b (Array.getElem?_eq_some_iff.1 h1).1]; exact h1, h2⟩, h3⟩
theorem plainElem_bool_inv {H : Type} {P : Program} {e : TypeId} (he : P.underlying e = some .bool) {v : Value} {z : DataW H × List MemPlace} (h : plainElem P e v = some z) : ∃ x, v = .bool x ∧ z = (.lit (.bool x), []) := by
  unfold plainElem at h
  rw [he] at h
  split at h
  · cases h
    exact ⟨_, rfl, rfl⟩
  · rename_i hh
    cases hh
  · rename_i hh
    cases hh
  · cases h
section
variable {P : Program} {ops : Array Oper} {rest : List Oper} {o : Oper} {a : Act} {Q : Exit → Act → World → Prop}
end
theorem SetAt.put {P : Program} {t k e : TypeId} {w : World} {b n : Nat} {S : List Lit} (h : SetAt P k e w b n S) (K : Keyed P k) (ht : P.underlying t = some (.map k e)) (he : P.underlying e = some .bool) (hn : n < maxLen) {key : Value} {kl : Lit} (hkey : keyOf P k key = some kl) :
    ∃ w', (Instr.mapUpdate t (.map (some b)) key (.bool true)).run P w = .ok () w' ∧ SetAt P k e w' b (n + 1) (S ++ [kl]) ∧ w.grownBy w' (some b) := by
  obtain ⟨D, hown, hS⟩ := h
  obtain ⟨w', hrun, r1, r2⟩ := hown.update K ht hn hkey (plainElem_bool he true)
  refine ⟨w', hrun, ⟨_, r1, fun l hl => ?_⟩, r2⟩
  by_cases h : l = kl
  · subst h
    exact ⟨true, atKey_put_same hown.isMap (K.key hkey) _ _, by simp⟩
  · obtain ⟨r, h1, h2⟩ := hS l hl
    exact ⟨r, by rw [atKey_put_other h]; exact h1, by simp [h, h2]⟩
theorem keys_ints {P : Program} {e : TypeId} {q : IntKind} (he : P.underlying e = some (.int q)) (D : Nat) (l : List Int) (hw : ∀ a ∈ l, (Lit.int q a).wf = true) : ∀ L : List Nat, (∀ i ∈ L, i < l.length) →
    L.mapM (fun i => P.keyLits (D + 1) e (((l.map (Value.int q)).drop (i * 1)).take 1)) = some (L.map fun i => [Lit.int q (l.getD i 0)])
  | [], _ => rfl
  | i :: L, h => by
    have hi := h i (by simp)
    have e1 : ((l.map (Value.int q)).drop (i * 1)).take 1 = [Value.int q (l.getD i 0)] := by
      rw [Nat.mul_one, List.drop_eq_getElem_cons (by simpa using hi)]
      simp [List.getD_eq_getElem?_getD, hi]
    have hwi := hw (l.getD i 0) (by rw [getD_lt' l 0 hi]; exact List.getElem_mem hi)
    rw [List.mapM_cons, e1, keys_ints he D l hw L fun j hj => h j (by simp [hj])]
    have e2 : P.keyLits (D + 1) e [Value.int q (l.getD i 0)] = some [Lit.int q (l.getD i 0)] := by
      simp only [Program.keyLits, he]
      rw [if_pos ⟨trivial, hwi⟩]
    rw [e2]
    rfl
/-- the key of an array of integers -/
def arrKey (q : IntKind) (l : List Int) : Lit := .string (keyBytes (l.map (Lit.int q)))
theorem keyOf_ints {P : Program} {k e : TypeId} {n : Nat} {q : IntKind} (A : ArrKey P k e n) (he : P.underlying e = some (.int q)) (hsz : ∃ m, P.types.size = m + 1) (l : List Int) (hl : l.length = n) (hw : ∀ a ∈ l, (Lit.int q a).wf = true) :
    keyOf P k (.agg (l.map (Value.int q)).toArray) = some (arrKey q l) := by
  have hkt := A.keyType hsz
  obtain ⟨m0, hm0⟩ := hsz
  unfold keyOf
  simp only [A.hu]
  rw [if_pos (by simp [hkt, Value.formed, A.hu, A.size, hl]), hm0]
  unfold Program.keyLits
  simp only [A.hu, Value.cells]
  have h := keys_ints he m0 l hw (List.range n) (fun i hi => by rw [hl]; simpa using hi)
  rw [if_pos (by rw [A.size]; simpa using hl), A.one, h]
  have hr : (List.range n).map (fun i => [Lit.int q (l.getD i 0)]) = (l.map fun c => [Lit.int q c]) := by
    apply List.ext_getElem
    · simp [hl]
    · intro i h1 h2
      simp at h2
      simp [List.getD_eq_getElem?_getD, h2]
  rw [hr]
  have hfl : ∀ l : List Int, (l.map fun c => [Lit.int q c]).flatten = l.map (Lit.int q) := fun l => by induction l with | nil => rfl | cons a r ih => simp [ih]
  simp [hfl, arrKey]
end Go.Proofs.Ytbjmadcbhkeenaa.mp
namespace Go.Proofs.Ytbjmadcbhkeenaa
set_option linter.unusedSimpArgs false
set_option linter.unusedVariables false
open Go.RowKit
theorem wl_loadG {P : Program} {w : World} {ops : Array Oper} {rest : List Oper} {o : Oper} {a : Act} {Q : Exit → Act → World → Prop} (hgd : Region.wanted o (yielded ops a.tmps) = true) (ty : TypeId) (x : Operand) (ho : o.op = .load ty x)
    (p : Addr) (hx : a.eval x = .pointer (some p)) (n : Nat) (cs : List Value) (hn : cs.length = n) (ha : Agg P ty n) (hc : At w p cs) (h : wpList P ops Q rest (a.put o.dst (.agg cs.toArray)) w) : wpList P ops Q (o :: rest) a w := by
  subst hn
  refine wpList_step fun K hK' => ?_
  rw [if_pos hgd]
  unfold Oper.wp
  simp [execOp, ho, hx, Instr.loadAt, Instr.sureAddr, run_load_agg w ty p cs ha hc, Result.andThen]
  exact hK' _ _ h
theorem still_load {P : Program} {w : World} {ops : Array Oper} {rest : List Oper} {o : Oper} {a : Act} {Q : Act → Prop} (hgd : Region.wanted o (yielded ops a.tmps) = true) (ty : TypeId) (x : Operand) (ho : o.op = .load ty x)
    (p : Addr) (hx : a.eval x = .pointer (some p)) (n : Nat) (cs : List Value) (hn : cs.length = n) (ha : Agg P ty n) (hc : At w p cs) (h : wpStill P ops w Q rest (a.put o.dst (.agg cs.toArray))) : wpStill P ops w Q (o :: rest) a := by
  subst hn
  refine wpStill_step fun K hK => ?_
  rw [if_pos hgd]
  unfold Oper.still
  simp [execOp, ho, hx, Instr.loadAt, Instr.sureAddr, run_load_agg w ty p cs ha hc, Result.andThen, Oper.stillUpon]
  exact hK _ h
/-- a new variable: the world behind it a letter -/
theorem wl_allocV {P : Program} {w : World} {ops : Array Oper} {rest : List Oper} {o : Oper} {a : Act} {Q : Exit → Act → World → Prop} (hgd : o.guard = none) (t : TypeId) (ho : o.op = .alloc t)
    (cs : List Value) (hz : (P.info? t).map (·.zero) = some (some (.agg cs.toArray))) (N : Nat) (hN : w.heap.size = N)
    (h : ∀ w', BlkV t w' N cs → Below N w w' → w'.heap.size = N + 1 → wpList P ops Q rest (a.put o.dst (.pointer (some ⟨N, 0, none⟩))) w') : wpList P ops Q (o :: rest) a w := by
  subst hN
  exact wl_alloc hgd t ho cs hz (h _ (BlkV.new t w cs rfl) ((Below.refl _ _).alloc (Nat.le_refl _) _) (by simp))
/-- a whole store into a variable: the world behind it a letter -/
theorem wl_storeV {P : Program} {w : World} {ops : Array Oper} {rest : List Oper} {o : Oper} {a : Act} {Q : Exit → Act → World → Prop} (hgd : o.guard = none) (ty : TypeId) (x y : Operand) (ho : o.op = .store ty x y)
    (t : TypeId) (g : Nat) (hx : a.eval x = .pointer (some ⟨g, 0, none⟩)) (cs : List Value) (hy : a.eval y = .agg cs.toArray) (n : Nat) (hi : Agg P ty n) (hn : cs.length = n) (cur : List Value) (hg : BlkV t w g cur) (hc : cur.length = n) (h1 : ∀ u ∈ cs, u.oneCell' = true)
    (h : ∀ w', BlkV t w' g cs → Below g w w' → w'.heap.size = w.heap.size → wpList P ops Q rest (a.put o.dst undef) w') : wpList P ops Q (o :: rest) a w :=
  wl_storeAll hgd ty x y ho t g hx cs hy n hi hn cur hg hc h1 fun hb => h _ hb (below_setRow' (Below.refl _ _) (Nat.le_refl _) _) (by simp)
section
open Go.Maps Go.WideMaps mp
variable {P : Program} {ops : Array Oper} {rest : List Oper} {o : Oper} {a : Act} {Q : Exit → Act → World → Prop}
theorem wl_lookG (w : World) (hg : Region.wanted o (yielded ops a.tmps) = true) (m x : Operand) (t : TypeId) (hop : o.op = Op.lookup t m x false)
    (k e : TypeId) (K : Keyed P k) (ht : P.underlying t = some (.map k e)) (he : P.underlying e = some .bool) (hz : (zeroValue e).run P w = .ok (.bool false) w) (b n : Nat) (S : List Lit)
    (hm : a.eval m = .map (some b)) (hown : SetAt P k e w b n S) (key : Value) (kl : Lit) (hx : a.eval x = key) (hkey : keyOf P k key = some kl)
    (r : Bool) (hr : r = true ↔ kl ∈ S) (hK : wpList P ops Q rest (a.put o.dst (.bool r)) w) :
    wpList P ops Q (o :: rest) a w := by
  refine wpList_step fun K' hK' => ?_
  rw [if_pos hg]
  obtain ⟨D, hown, hS⟩ := hown
  obtain ⟨v, ps, hrun, hv⟩ := hown.lookup K ht hz (plainElem_bool he false) hkey
  obtain ⟨c, rfl, hc⟩ := plainElem_bool_inv he hv
  obtain ⟨r', hr1, hr2⟩ := hS kl ⟨key, hkey⟩
  rw [hr1] at hc
  simp only [Prod.mk.injEq, DataW.lit.injEq, Lit.bool.injEq] at hc
  obtain rfl : r = r' := by
    cases r <;> cases r' <;> simp_all
  unfold Oper.wp
  simp [execOp, hop, hm, hx, hrun, Result.andThen]
  rw [← hc.1]
  exact hK' _ _ hK
end
end Go.Proofs.Ytbjmadcbhkeenaa
namespace Go.Proofs.Ytbjmadcbhkeenaa.shr
set_option linter.unusedVariables false
open Go.RowKit Go.Maps Go.WideMaps Go.Proofs.Ytbjmadcbhkeenaa.sh Go.Proofs.Ytbjmadcbhkeenaa.mp
set_option linter.unusedSimpArgs false
theorem outside_any (m lo hi : Int) (w : World) : Calls Try.prog 18 #[.int .i64 m, .int .i64 lo, .int .i64 hi] w fun e w' => e = .returned (.bool (!inB m lo hi)) ∧ w = w' := by
  by_cases h1 : m < lo
  · go_enter Try.func18, Try.ntmps18
    go_wp2
    go_ret
    exact ⟨rv (rb (by simp [inB] <;> omega)), rfl⟩
  · by_cases h2 : hi < m
    · go_enter Try.func18, Try.ntmps18
      go_wp2
      go_ret
      exact ⟨rv (rb (by simp [inB] <;> omega)), rfl⟩
    · go_enter Try.func18, Try.ntmps18
      go_wp2
      go_ret
      exact ⟨rv (rb (by simp [inB] <;> omega)), rfl⟩
theorem lawI : Keyed Try.prog 3 := int_keyed Try.underlying3
theorem lawH : Keyed Try.prog 28 := Keyed.of_law (deep_law_laid (by kernel_rfl) (m := 2) (by omega) (of_decide_eq_true (by kernel_rfl)) (by kernel_rfl) (by kernel_rfl))
theorem zeroB (w : World) : (zeroValue 4).run Try.prog w = .ok (.bool false) w := by kernel_rfl
theorem arrID : ArrKey Try.prog 28 5 16 := ⟨Try.underlying28, by kernel_rfl, by kernel_rfl, by kernel_rfl⟩
theorem types1 : ∃ m, Try.prog.types.size = m + 1 := ⟨Try.prog.types.size - 1, by have : 0 < Try.prog.types.size := of_decide_eq_true (by kernel_rfl); omega⟩
theorem keyX (s : Sh) (hs : s.Ok) : keyOf Try.prog 3 (.int .i64 s.x) = some (.int .i64 s.x) := keyOf_int_mk Try.underlying3 (WalkArith.wf_i64 hs.xb)
theorem keyH (s : Sh) (hs : s.Ok) : keyOf Try.prog 28 (.agg (s.h.map (Value.int .u8)).toArray) = some (arrKey .u8 s.h) :=
  keyOf_ints arrID Try.underlying5 types1 s.h hs.hl fun a ha => WalkArith.wf_u8 (hs.hb a ha)
theorem keyH_inj {s t : Sh} (hs : s.Ok) (ht : t.Ok) (h : arrKey .u8 s.h = arrKey .u8 t.h) : s.h = t.h := by
  have h1 := keyH s hs
  have h2 := keyH t ht
  rw [← h] at h2
  have h3 := lawH.inj h1 h2
  simp only [Value.agg.injEq] at h3
  have h4 : s.h.map (Value.int .u8) = t.h.map (Value.int .u8) := by simpa using congrArg Array.toList h3
  exact (List.map_inj_right (f := Value.int .u8) (fun a b e => by cases e; rfl)).1 h4
/-- the keys of the first shares -/
def keysX (l : List Sh) : List Lit := l.map fun s => .int .i64 s.x
def keysH (l : List Sh) : List Lit := l.map fun s => arrKey .u8 s.h
theorem memX (l : List Sh) (s : Sh) : (l.any fun t => t.x == s.x) = true ↔ Lit.int .i64 s.x ∈ keysX l := by
  simp [keysX]
theorem memH (l : List Sh) (s : Sh) (hl : ∀ t ∈ l, t.Ok) (hs : s.Ok) : (l.any fun t => t.h == s.h) = true ↔ arrKey .u8 s.h ∈ keysH l := by
  simp only [keysH, List.any_eq_true, List.mem_map, beq_iff_eq]
  constructor
  · rintro ⟨t, h1, h2⟩
    exact ⟨t, h1, by rw [h2]⟩
  · rintro ⟨t, h1, h2⟩
    exact ⟨t, h1, keyH_inj (hl t h1) hs h2⟩
theorem any_same (l : List Sh) (s : Sh) : l.any (same s) = ((l.any fun t => t.x == s.x) || (l.any fun t => t.h == s.h)) := by
  induction l with
  | nil => rfl
  | cons t l ih =>
    rw [List.any_cons, List.any_cons, List.any_cons, ih]
    unfold same
    cases t.x == s.x <;> cases t.h == s.h <;> cases (l.any fun t => t.x == s.x) <;> simp
theorem keysX_succ (l : List Sh) (k : Nat) (hk : k < l.length) : keysX (l.take (k + 1)) = keysX (l.take k) ++ [.int .i64 (l.getD k nil).x] := by
  unfold keysX
  rw [List.take_succ_eq_append_getElem hk, List.map_append, getD_lt' l nil hk]; rfl
theorem keysH_succ (l : List Sh) (k : Nat) (hk : k < l.length) : keysH (l.take (k + 1)) = keysH (l.take k) ++ [arrKey .u8 (l.getD k nil).h] := by
  unfold keysH
  rw [List.take_succ_eq_append_getElem hk, List.map_append, getD_lt' l nil hk]; rfl
theorem aggS : Agg Try.prog 41 49 := Agg.str Try.underlying41 (by kernel_rfl)
theorem aggID : Agg Try.prog 28 16 := Agg.arr Try.underlying28 (by kernel_rfl)
theorem aggY : Agg Try.prog 39 32 := Agg.arr Try.underlying39 (by kernel_rfl)
/-- the share that a new variable holds -/
def sh0 : Sh := ⟨List.replicate 16 0, 0, List.replicate 32 0⟩
theorem sh0_zero : (Try.prog.info? 41).map (·.zero) = some (some (.agg sh0.cs.toArray)) := by kernel_rfl
theorem sh0_len : sh0.cs.length = 49 := rfl
theorem at_h {w : World} {t : TypeId} {g : Nat} {s : Sh} (hs : s.Ok) (h : BlkV t w g s.cs) : At w ⟨g, 0, none⟩ (s.h.map (Value.int .u8)) := by
  refine h.at 0 _ fun j u hu => ?_
  have hj : j < 16 := by have := (List.getElem?_eq_some_iff.1 hu).1; rw [List.length_map, hs.hl] at this; exact this
  rw [Nat.zero_add, cs_hi s hs j hj, ← hu, List.getElem?_map, List.getElem?_eq_getElem (by rw [hs.hl]; exact hj), getD_lt' s.h 0 (by rw [hs.hl]; exact hj)]
  rfl
theorem at_y {w : World} {t : TypeId} {g : Nat} {s : Sh} (hs : s.Ok) (h : BlkV t w g s.cs) : At w ⟨g, 17, none⟩ (s.y.map (Value.int .u16)) := by
  refine h.at 17 _ fun j u hu => ?_
  have hj : j < 32 := by have := (List.getElem?_eq_some_iff.1 hu).1; rw [List.length_map, hs.yl] at this; exact this
  rw [cs_yi s hs j hj, ← hu, List.getElem?_map, List.getElem?_eq_getElem (by rw [hs.yl]; exact hj), getD_lt' s.y 0 (by rw [hs.yl]; exact hj)]
  rfl
end Go.Proofs.Ytbjmadcbhkeenaa.shr
namespace Go.Proofs.Ytbjmadcbhkeenaa.shr
set_option linter.unusedVariables false
open Go.RowKit Go.Maps Go.WideMaps Go.Proofs.Ytbjmadcbhkeenaa.sh Go.Proofs.Ytbjmadcbhkeenaa.mp
set_option linter.unusedSimpArgs false
set_option pp.maxSteps 6000
theorem bel_all {N B : Nat} {w wr wA wS : World} (hN : wr.heap.size = N) (h : Below B w wr) (hA : Below N wr wA) (hS : Below N wA wS) (hB : B ≤ N := by omega) : Below B w wS := h.trans ((hA.trans hS).mono hB)
set_option maxRecDepth 100000 in
theorem eachFault_any (ao : Option Addr) (cap : Nat) (l : List Sh) (w : World) (hr : RowS w ao l) (hok : ∀ s ∈ l, s.Ok) (hn : l.length ≤ 32) :
    Calls Try.prog 21 #[.slice ao l.length cap] w fun e w' => e = .returned (.int .i64 (eachE l)) ∧ Below w.heap.size w w' := by
  have hmm := @run_makeMap Try.prog
  have HOK := hid hok
  clear hok
  go_enter Try.func21, Try.ntmps21
  go_wp2
  go_loopw [11] (fun i wr => ∃ k : Nat, k ≤ l.length ∧ i = .int .i64 k ∧ Hid (eachTo l k = 0) ∧ SetAt Try.prog 3 4 wr w.heap.size k (keysX (l.take k)) ∧ SetAt Try.prog 28 4 wr (w.heap.size + 1) k (keysH (l.take k)) ∧ Below w.heap.size w wr) (fun i _ => l.length - (intOf i).toNat)
  case atStart => exact ⟨0, Nat.zero_le _, rfl, rfl, (SetAt.made _ _ _ w).alloc _, by have h := SetAt.made Try.prog 28 4 (w.alloc (.map #[] 0)); rw [show (w.alloc (.map #[] 0)).heap.size = w.heap.size + 1 by simp] at h; exact h, ((Below.refl _ _).alloc (Nat.le_refl _) _).alloc (by simp) _⟩
  case round =>
    obtain ⟨k, hk, rfl, HE, hX, hH, hbl⟩ := hrel
    by_cases h0 : k < l.length
    · obtain ⟨b, off, s, rfl, hb, HS, hat0⟩ := hr.elem (i := k) h0
      have hs : s.Ok := by rw [HS.out, getD_lt' l nil h0]; exact HOK.out _ (List.getElem_mem h0)
      have hat := At.belowB hat0 hbl hb
      have hcl := hs.csl
      have HCL := hid hcl
      have c1 := cs_one s
      clear hcl hat0
      obtain ⟨N, HN⟩ : ∃ N, Hid (wr.heap.size = N) := ⟨_, rfl⟩
      have hlt := hX.lt
      have hlt2 := hH.lt
      rw [HN.out] at hlt hlt2
      have hb1 := memX (l.take k) s
      have hb2 := memH (l.take k) s (fun t ht => HOK.out t (List.mem_of_mem_take ht)) hs
      have hbad : faultIn (l.take k) s ≠ 0 → eachE l = faultIn (l.take k) s := fun h => by have := eachE_bad l k h0 HE.out (by rw [← HS.out]; exact h); rw [← HS.out] at this; exact this
      have hstep : faultIn (l.take k) s = 0 → eachTo l (k + 1) = 0 := fun h => eachTo_step l k HE.out (by rw [← HS.out]; exact h)
      have hfi : faultIn (l.take k) s = if inB s.x 1 256 = false then 4 else if ((l.take k).any (fun t => t.x == s.x) || (l.take k).any (fun t => t.h == s.h)) = true then 8 else if badY s = true then 4 else 0 := by unfold faultIn; rw [any_same]
      have HBAD := hid hbad
      have HSTEP := hid hstep
      have HFI := hid hfi
      have HKX := hid (keysX_succ l k h0)
      have HKH := hid (keysH_succ l k h0)
      rw [← HS.out] at HKX HKH
      clear hbad hstep hfi
      generalize hg1 : (l.take k).any (fun t => t.x == s.x) = b1 at hb1 HFI
      generalize hg2 : (l.take k).any (fun t => t.h == s.h) = b2 at hb2 HFI
      clear hg1 hg2
      have HB1 := hid hb1
      have HB2 := hid hb2
      clear hb1 hb2
      cases hin : inB s.x 1 256
      · go_wp2_with (first | (refine wl_loadG (by rfl) 41 _ rfl ⟨b, off + k * 49, none⟩ rfl 49 s.cs HCL.out aggS hat ?_) | (refine wl_allocV rfl 41 rfl sh0.cs sh0_zero N HN.out ?_; intro wA hA hbA hsA) | (refine wl_storeV rfl 41 _ _ rfl 41 N rfl s.cs rfl 49 aggS HCL.out sh0.cs hA sh0_len c1 ?_; intro wS hS hbS hsS; have cx := (hS.cell 16).trans (cs_x s hs); have hXS := hX.below (by rw [HN.out]; exact hbA.trans hbS); have hHS := hH.below (by rw [HN.out]; exact hbA.trans hbS); have hath := at_h hs hS; have hat0 := hS.at0) | (go_at_call 18; refine (outside_any _ _ _ _).mono ?_; rintro e w1 ⟨rfl, rfl⟩) | (at_lookup; refine wl_lookG _ (by rfl) _ _ 76 rfl 3 4 lawI Try.underlying76 Try.underlying4 (zeroB _) w.heap.size k _ rfl hXS _ _ rfl (keyX s hs) _ HB1.out ?_) | (at_lookup; refine wl_lookG _ (by rfl) _ _ 77 rfl 28 4 lawH Try.underlying77 Try.underlying4 (zeroB _) (w.heap.size + 1) k _ rfl hHS _ _ rfl (keyH s hs) _ HB2.out ?_) | (refine wl_loadG (by rfl) 28 _ rfl ⟨N, 0, none⟩ rfl 16 (s.h.map (Value.int .u8)) (by rw [List.length_map]; exact hs.hl) aggID hath ?_) | (refine wl_loadG (by rfl) 41 _ rfl ⟨N, 0, none⟩ rfl 49 s.cs HCL.out aggS hat0 ?_) | (go_at_call 36; refine (badValues_any s hs _).mono ?_; rw [hbY]; rintro e wB ⟨rfl, hb2⟩))
        go_ret
        exact ⟨rv (ri (by rw [HBAD.out (by rw [HFI.out, if_pos hin]; decide), HFI.out, if_pos hin])), bel_all HN.out hbl hbA hbS⟩
      · have HIN := hid hin
        cases b1
        · cases b2
          · cases hbY : badY s
            · have HBY := hid hbY
              go_wp2_with (first | (refine wl_loadG (by rfl) 41 _ rfl ⟨b, off + k * 49, none⟩ rfl 49 s.cs HCL.out aggS hat ?_) | (refine wl_allocV rfl 41 rfl sh0.cs sh0_zero N HN.out ?_; intro wA hA hbA hsA) | (refine wl_storeV rfl 41 _ _ rfl 41 N rfl s.cs rfl 49 aggS HCL.out sh0.cs hA sh0_len c1 ?_; intro wS hS hbS hsS; have cx := (hS.cell 16).trans (cs_x s hs); have hXS := hX.below (by rw [HN.out]; exact hbA.trans hbS); have hHS := hH.below (by rw [HN.out]; exact hbA.trans hbS); have hath := at_h hs hS; have hat0 := hS.at0) | (go_at_call 18; refine (outside_any _ _ _ _).mono ?_; rintro e w1 ⟨rfl, rfl⟩) | (at_lookup; refine wl_lookG _ (by rfl) _ _ 76 rfl 3 4 lawI Try.underlying76 Try.underlying4 (zeroB _) w.heap.size k _ rfl hXS _ _ rfl (keyX s hs) _ HB1.out ?_) | (at_lookup; refine wl_lookG _ (by rfl) _ _ 77 rfl 28 4 lawH Try.underlying77 Try.underlying4 (zeroB _) (w.heap.size + 1) k _ rfl hHS _ _ rfl (keyH s hs) _ HB2.out ?_) | (refine wl_loadG (by rfl) 28 _ rfl ⟨N, 0, none⟩ rfl 16 (s.h.map (Value.int .u8)) (by rw [List.length_map]; exact hs.hl) aggID hath ?_) | (refine wl_loadG (by rfl) 41 _ rfl ⟨N, 0, none⟩ rfl 49 s.cs HCL.out aggS hat0 ?_) | (go_at_call 36; refine (badValues_any s hs _).mono ?_; rw [hbY]; rintro e wB ⟨rfl, hb2⟩))
              have hNS : N < wS.heap.size := hS.lt
              have hSB := hS.below hb2 hNS
              have cxB := (hSB.cell 16).trans (cs_x s hs)
              have hathB := at_h hs hSB
              have hXB := hXS.below hb2
              have hHB := hHS.below hb2
              have hbB := (bel_all HN.out hbl hbA hbS).trans (hb2.mono (bel_all HN.out hbl hbA hbS).size)
              obtain ⟨W1, hrun1, hX1, hg1⟩ := hXB.drew.put lawI Try.underlying76 Try.underlying4 (by unfold maxLen; omega) (keyX s hs)
              have hH1 := hHB.drew.kept hg1 (by simp)
              obtain ⟨W2, hrun2, hH2, hg2⟩ := hH1.put lawH Try.underlying77 Try.underlying4 (by unfold maxLen; omega) (keyH s hs)
              have hX2 := hX1.kept hg2 (by simp)
              have hS1 := hSB.drew.grown hg1 (by simp; omega)
              have cx1 := (hS1.cell 16).trans (cs_x s hs)
              have hath1 := at_h hs hS1
              have ra0 : wB.drew.rangeAt N 0 (s.h.map (Value.int .u8)) := fun j v hv => by have := hathB j v hv; rwa [Addr.add_mid] at this
              have ra1 : W1.rangeAt N 0 (s.h.map (Value.int .u8)) := fun j v hv => by have := hath1 j v hv; rwa [Addr.add_mid] at this
              have hS2 := hS1.grown hg2 (by simp; omega)
              have cx2 := (hS2.cell 16).trans (cs_x s hs)
              have hath2 := at_h hs hS2
              have ra2 : W2.rangeAt N 0 (s.h.map (Value.int .u8)) := fun j v hv => by have := hath2 j v hv; rwa [Addr.add_mid] at this
              have cx0 : wB.drew.cell? ⟨N, 16, none⟩ = some (.int .i64 s.x) := cxB
              have hu := Try.underlying28
              have hi : (Try.prog.info? 28).map (·.size) = some (s.h.map (Value.int .u8)).length := by rw [List.length_map, hs.hl]; exact aggID.2
              have hHL : (s.h.map (Value.int .u8)).length = 16 := by rw [List.length_map]; exact hs.hl
              have hH1' : ∀ v ∈ s.h.map (Value.int .u8), v.oneCell' = true := ints_one _ _
              have hb2' := (hbB.drew.grown hg1 (by simpa using hbB.size) (fun k hk => by cases hk; exact Nat.le_refl _)).grown hg2 (Nat.le_trans hbB.size (by simpa using hg1.size)) (fun k hk => by cases hk; omega)
              generalize s.h.map (Value.int .u8) = HV at *
              clear hath hath1 hath2 hathB hat hat0
              go_region_held3 (fun w' => w'.cell? ⟨N, 16, none⟩ = some (.int .i64 s.x) ∧ w'.rangeAt N 0 HV) (first | exact ⟨cx0, ra0⟩ | exact ⟨cx1, ra1⟩ | exact ⟨cx2, ra2⟩) (fail)
              go_wp2
              go_roundw
              case rel => exact ⟨k + 1, by omega, by go_num, hid (HSTEP.out (by rw [HFI.out, if_neg (by rw [HIN.out]; decide), if_neg (by decide), if_neg (by rw [HBY.out]; decide)])), by rw [HKX.out]; exact hX2, by rw [HKH.out]; exact hH2, hb2'⟩
              case measure => simp [intOf] <;> omega
            · have HBY := hid hbY
              go_wp2_with (first | (refine wl_loadG (by rfl) 41 _ rfl ⟨b, off + k * 49, none⟩ rfl 49 s.cs HCL.out aggS hat ?_) | (refine wl_allocV rfl 41 rfl sh0.cs sh0_zero N HN.out ?_; intro wA hA hbA hsA) | (refine wl_storeV rfl 41 _ _ rfl 41 N rfl s.cs rfl 49 aggS HCL.out sh0.cs hA sh0_len c1 ?_; intro wS hS hbS hsS; have cx := (hS.cell 16).trans (cs_x s hs); have hXS := hX.below (by rw [HN.out]; exact hbA.trans hbS); have hHS := hH.below (by rw [HN.out]; exact hbA.trans hbS); have hath := at_h hs hS; have hat0 := hS.at0) | (go_at_call 18; refine (outside_any _ _ _ _).mono ?_; rintro e w1 ⟨rfl, rfl⟩) | (at_lookup; refine wl_lookG _ (by rfl) _ _ 76 rfl 3 4 lawI Try.underlying76 Try.underlying4 (zeroB _) w.heap.size k _ rfl hXS _ _ rfl (keyX s hs) _ HB1.out ?_) | (at_lookup; refine wl_lookG _ (by rfl) _ _ 77 rfl 28 4 lawH Try.underlying77 Try.underlying4 (zeroB _) (w.heap.size + 1) k _ rfl hHS _ _ rfl (keyH s hs) _ HB2.out ?_) | (refine wl_loadG (by rfl) 28 _ rfl ⟨N, 0, none⟩ rfl 16 (s.h.map (Value.int .u8)) (by rw [List.length_map]; exact hs.hl) aggID hath ?_) | (refine wl_loadG (by rfl) 41 _ rfl ⟨N, 0, none⟩ rfl 49 s.cs HCL.out aggS hat0 ?_) | (go_at_call 36; refine (badValues_any s hs _).mono ?_; rw [hbY]; rintro e wB ⟨rfl, hb2⟩))
              go_ret
              exact ⟨rv (ri (by rw [HBAD.out (by rw [HFI.out, if_neg (by rw [HIN.out]; decide), if_neg (by decide), if_pos HBY.out]; decide), HFI.out, if_neg (by rw [HIN.out]; decide), if_neg (by decide), if_pos HBY.out])), (bel_all HN.out hbl hbA hbS).trans (hb2.mono (bel_all HN.out hbl hbA hbS).size)⟩
          · go_wp2_with (first | (refine wl_loadG (by rfl) 41 _ rfl ⟨b, off + k * 49, none⟩ rfl 49 s.cs HCL.out aggS hat ?_) | (refine wl_allocV rfl 41 rfl sh0.cs sh0_zero N HN.out ?_; intro wA hA hbA hsA) | (refine wl_storeV rfl 41 _ _ rfl 41 N rfl s.cs rfl 49 aggS HCL.out sh0.cs hA sh0_len c1 ?_; intro wS hS hbS hsS; have cx := (hS.cell 16).trans (cs_x s hs); have hXS := hX.below (by rw [HN.out]; exact hbA.trans hbS); have hHS := hH.below (by rw [HN.out]; exact hbA.trans hbS); have hath := at_h hs hS; have hat0 := hS.at0) | (go_at_call 18; refine (outside_any _ _ _ _).mono ?_; rintro e w1 ⟨rfl, rfl⟩) | (at_lookup; refine wl_lookG _ (by rfl) _ _ 76 rfl 3 4 lawI Try.underlying76 Try.underlying4 (zeroB _) w.heap.size k _ rfl hXS _ _ rfl (keyX s hs) _ HB1.out ?_) | (at_lookup; refine wl_lookG _ (by rfl) _ _ 77 rfl 28 4 lawH Try.underlying77 Try.underlying4 (zeroB _) (w.heap.size + 1) k _ rfl hHS _ _ rfl (keyH s hs) true (by first | exact HB2.out | exact ⟨fun _ => HB2.out.1 trivial, fun _ => rfl⟩) ?_) | (refine wl_loadG (by rfl) 28 _ rfl ⟨N, 0, none⟩ rfl 16 (s.h.map (Value.int .u8)) (by rw [List.length_map]; exact hs.hl) aggID hath ?_) | (refine wl_loadG (by rfl) 41 _ rfl ⟨N, 0, none⟩ rfl 49 s.cs HCL.out aggS hat0 ?_) | (go_at_call 36; refine (badValues_any s hs _).mono ?_; rw [hbY]; rintro e wB ⟨rfl, hb2⟩))
            go_ret
            exact ⟨rv (ri (by rw [HBAD.out (by rw [HFI.out, if_neg (by rw [HIN.out]; decide), if_pos (by decide)]; decide), HFI.out, if_neg (by rw [HIN.out]; decide), if_pos (by decide)])), bel_all HN.out hbl hbA hbS⟩
        · go_wp2_with (first | (refine wl_loadG (by rfl) 41 _ rfl ⟨b, off + k * 49, none⟩ rfl 49 s.cs HCL.out aggS hat ?_) | (refine wl_allocV rfl 41 rfl sh0.cs sh0_zero N HN.out ?_; intro wA hA hbA hsA) | (refine wl_storeV rfl 41 _ _ rfl 41 N rfl s.cs rfl 49 aggS HCL.out sh0.cs hA sh0_len c1 ?_; intro wS hS hbS hsS; have cx := (hS.cell 16).trans (cs_x s hs); have hXS := hX.below (by rw [HN.out]; exact hbA.trans hbS); have hHS := hH.below (by rw [HN.out]; exact hbA.trans hbS); have hath := at_h hs hS; have hat0 := hS.at0) | (go_at_call 18; refine (outside_any _ _ _ _).mono ?_; rintro e w1 ⟨rfl, rfl⟩) | (at_lookup; refine wl_lookG _ (by rfl) _ _ 76 rfl 3 4 lawI Try.underlying76 Try.underlying4 (zeroB _) w.heap.size k _ rfl hXS _ _ rfl (keyX s hs) true (by first | exact HB1.out | exact ⟨fun _ => HB1.out.1 trivial, fun _ => rfl⟩) ?_) | (at_lookup; refine wl_lookG _ (by rfl) _ _ 77 rfl 28 4 lawH Try.underlying77 Try.underlying4 (zeroB _) (w.heap.size + 1) k _ rfl hHS _ _ rfl (keyH s hs) _ HB2.out ?_) | (refine wl_loadG (by rfl) 28 _ rfl ⟨N, 0, none⟩ rfl 16 (s.h.map (Value.int .u8)) (by rw [List.length_map]; exact hs.hl) aggID hath ?_) | (refine wl_loadG (by rfl) 41 _ rfl ⟨N, 0, none⟩ rfl 49 s.cs HCL.out aggS hat0 ?_) | (go_at_call 36; refine (badValues_any s hs _).mono ?_; rw [hbY]; rintro e wB ⟨rfl, hb2⟩))
          go_ret
          exact ⟨rv (ri (by rw [HBAD.out (by rw [HFI.out, if_neg (by rw [HIN.out]; decide), if_pos (by rfl)]; decide), HFI.out, if_neg (by rw [HIN.out]; decide), if_pos (by rfl)])), bel_all HN.out hbl hbA hbS⟩
    · go_wp2
      go_ret
      exact ⟨rv (ri (by have := HE.out; unfold eachE; rw [show l.length = k by omega, this])), hbl⟩
end Go.Proofs.Ytbjmadcbhkeenaa.shr
