/-
  Envelopes read: the plain form; contracts of mix.room and mix.Number. Conditions: a slice of octets that lies in memory. Contract of wrap.Read. Conditions: a slice of octets that lies in memory. Contracts of mix.Cover, wrap.cover and wrap.tag. Conditions: keys, nonces and texts of octets, texts of at most 2^20 octets.
-/
import Derived.Test.YtbljihhelladbaaTWrH
import Derived.Test.YtbljihhelladbaaTMkX
import Derived.Test.YtbljihhelladbaaTWrI
namespace Go.Proofs.Ytbljihhelladbaa.wr
open Go.RowKit Go.Proofs.Ytbljihhelladbaa.st Go.Proofs.Ytbljihhelladbaa.hs Go.Proofs.Ytbljihhelladbaa.shr Go.Proofs.Ytbljihhelladbaa.sh
set_option linter.unusedSimpArgs false
set_option linter.unusedVariables false
set_option pp.maxSteps 6000
def seg (l : List Int) (k n : Nat) : List Int := (l.drop k).take n
theorem seg_length {l : List Int} {k n : Nat} (h : k + n ≤ l.length) : (seg l k n).length = n := by unfold seg; rw [List.length_take, List.length_drop]; omega
theorem seg_octs {l : List Int} (h : Octs l) (k n : Nat) : Octs (seg l k n) := fun c hc => h c (List.mem_of_mem_drop (List.mem_of_mem_take hc))
theorem seg_get? (l : List Int) (k n i : Nat) (h : i < n) : (seg l k n)[i]? = l[k + i]? := by unfold seg; rw [List.getElem?_take, if_pos h, List.getElem?_drop]
theorem seg_four {l : List Int} {k : Nat} (h : k + 4 ≤ l.length) : seg l k 4 = [l.getD k 0, l.getD (k + 1) 0, l.getD (k + 2) 0, l.getD (k + 3) 0] := by
  apply List.ext_getElem?
  intro i
  by_cases hi : i < 4
  · rw [seg_get? l k 4 i hi, List.getElem?_eq_getElem (by omega)]
    have : i = 0 ∨ i = 1 ∨ i = 2 ∨ i = 3 := by omega
    rcases this with rfl | rfl | rfl | rfl <;> simp [List.getD_eq_getElem?_getD, List.getElem?_eq_getElem (show k + 0 < l.length by omega), List.getElem?_eq_getElem (show k < l.length by omega), List.getElem?_eq_getElem (show k + 1 < l.length by omega), List.getElem?_eq_getElem (show k + 2 < l.length by omega), List.getElem?_eq_getElem (show k + 3 < l.length by omega)]
  · rw [List.getElem?_eq_none (by rw [seg_length h]; omega), List.getElem?_eq_none (by simp; omega)]
theorem seg_at {w : World} {b off : Nat} {l : List Int} (hc : ∀ i, i < l.length → w.cell? ⟨b, off + i, none⟩ = some (.int .u8 (l.getD i 0))) {k n : Nat} (h : k + n ≤ l.length) : At w ⟨b, off + k, none⟩ ((seg l k n).map (Value.int .u8)) := fun j u hu => by
  have hj : j < n := by have := (List.getElem?_eq_some_iff.1 hu).1; rw [List.length_map, seg_length h] at this; exact this
  rw [addr_add, Nat.add_assoc, hc (k + j) (by omega), ← hu, List.getElem?_map, seg_get? l k n j hj, List.getElem?_eq_getElem (by omega), getD_lt' l 0 (by omega)]
  rfl
theorem numL4_b {l : List Int} (h : Octs l) (k : Nat) : 0 ≤ numL (seg l k 4) ∧ numL (seg l k 4) ≤ 4294967295 := by
  have hs := seg_octs h k 4
  have hl : (seg l k 4).length ≤ 4 := by unfold seg; rw [List.length_take]; omega
  generalize seg l k 4 = s at hs hl
  have hb : ∀ i, i < s.length → 0 ≤ s.getD i 0 ∧ s.getD i 0 ≤ 255 := fun i hi => by have := hs.getD i; unfold Oct at this; omega
  match s, hl, hb with
  | [], _, _ => exact ⟨by decide, by decide⟩
  | [a], _, hb => have := hb 0 (by simp); simp at this; show 0 ≤ 256 * 0 + a ∧ 256 * 0 + a ≤ 4294967295; omega
  | [a, b], _, hb => have h0 := hb 0 (by simp); have h1 := hb 1 (by simp); simp at h0 h1; simp [numL]; omega
  | [a, b, c], _, hb => have h0 := hb 0 (by simp); have h1 := hb 1 (by simp); have h2 := hb 2 (by simp); simp at h0 h1 h2; simp [numL]; omega
  | [a, b, c, d], _, hb => have h0 := hb 0 (by simp); have h1 := hb 1 (by simp); have h2 := hb 2 (by simp); have h3 := hb 3 (by simp); simp at h0 h1 h2 h3; simp [numL]; omega
  | _ :: _ :: _ :: _ :: _ :: _, hl, _ => simp only [List.length_cons] at hl; omega
theorem room_ok (ao : Option Addr) (n cap k m : Nat) (w : World) (h : k + m ≤ n) (hn : n ≤ maxLen) : Calls Try.prog 178 #[.slice ao n cap, .int .i64 k, .int .i64 m] w fun e w' => e = .returned (.int .i64 0) ∧ w = w' := by
  unfold maxLen at hn
  have h1 : ¬ (k : Int) < 0 := by omega
  have h2 : ¬ (n : Int) < (m : Int) := by omega
  obtain ⟨d, hd⟩ : ∃ d : Nat, Hid (d = n - m) := ⟨_, rfl⟩
  have h3 : (n : Int) - (m : Int) = (d : Int) := by rw [hd.out]; omega
  have h4 : ¬ (d : Int) < (k : Int) := by rw [hd.out]; omega
  have hw : IntKind.i64.wrap (d : Int) = (d : Int) := IntWalk.i64_in _ (by rw [hd.out]; omega)
  go_enter Try.func178, Try.ntmps178
  go_wp2
  go_ret
  exact ⟨rfl, rfl⟩
set_option maxRecDepth 100000 in
set_option maxHeartbeats 1000000 in
theorem Number_ok (b off cap n k : Nat) (l : List Int) (w : World) (hn : n = l.length) (HP : Pt.Ok w ⟨some ⟨b, off, none⟩, cap, l⟩) (hk : k + 4 ≤ n) :
    Calls Try.prog 128 #[.slice (some ⟨b, off, none⟩) n cap, .int .i64 k] w fun e w' => e = .returned (.tuple #[.int .u32 (numL (seg l k 4)), .int .i64 0]) ∧ Below w.heap.size w w' := by
  have hcap : n ≤ cap := by rw [hn]; exact HP.len
  have hmax : cap ≤ maxLen := HP.cap
  unfold maxLen at hmax
  have hro := hid (room_ok (some ⟨b, off, none⟩) n cap k 4 w (by omega) (by unfold maxLen; omega))
  have h4 := hid (seg_four (l := l) (k := k) (by omega))
  obtain ⟨b', off', hao, hb, hc⟩ := HP.row.at (i := 0) (by show 0 < l.length; omega)
  cases hao
  have hat := seg_at (l := l) hc (k := k) (n := 4) (by omega)
  rw [h4.out] at hat ⊢
  have hob := HP.oct
  obtain ⟨a0, H0⟩ : ∃ a, Hid (a = l.getD k 0) := ⟨_, rfl⟩
  obtain ⟨a1, H1⟩ : ∃ a, Hid (a = l.getD (k + 1) 0) := ⟨_, rfl⟩
  obtain ⟨a2, H2⟩ : ∃ a, Hid (a = l.getD (k + 2) 0) := ⟨_, rfl⟩
  obtain ⟨a3, H3⟩ : ∃ a, Hid (a = l.getD (k + 3) 0) := ⟨_, rfl⟩
  have o0 : Oct a0 := by rw [H0.out]; exact hob.getD _
  have o1 : Oct a1 := by rw [H1.out]; exact hob.getD _
  have o2 : Oct a2 := by rw [H2.out]; exact hob.getD _
  have o3 : Oct a3 := by rw [H3.out]; exact hob.getD _
  rw [← H0.out, ← H1.out, ← H2.out, ← H3.out] at hat ⊢
  have hW : Hid (numL [a0, a1, a2, a3] = w4 a0 a1 a2 a3) := by show _ = _; unfold w4; simp [numL]; omega
  have hAA := run_arrayAt4
  have hb1 : (0 : Int) ≤ (k : Int) := by omega
  have hb2 : (k : Int) ≤ (k : Int) + 4 := by omega
  have hb3 : (k : Int) + 4 ≤ (cap : Int) := by omega
  have hwr : IntKind.i64.wrap ((k : Int) + 4) = (k : Int) + 4 := IntWalk.i64_in _ (by omega)
  clear hn HP hc hob h4
  go_enter Try.func128, Try.ntmps128
  go_wp2_with (first | (go_at_call 178; refine hro.out.mono ?_; rintro e w1 ⟨rfl, rfl⟩) | (refine wl_load rfl 204 _ rfl ⟨b, off + k, none⟩ rfl ([a0, a1, a2, a3].map (Value.int .u8)) aggA4 hat ?_) | (go_at_call 179; refine (word a0 a1 a2 a3 w o0 o1 o2 o3).mono ?_; rintro e w2 ⟨rfl, hb2⟩))
  go_ret2
  exact ⟨by rw [hW.out]; rfl, hb2⟩
end Go.Proofs.Ytbljihhelladbaa.wr
namespace Go.Proofs.Ytbljihhelladbaa.wr
open Go.RowKit Go.Proofs.Ytbljihhelladbaa.st Go.Proofs.Ytbljihhelladbaa.hs Go.Proofs.Ytbljihhelladbaa.shr Go.Proofs.Ytbljihhelladbaa.sh
set_option linter.unusedSimpArgs false
set_option linter.unusedVariables false
set_option pp.maxSteps 6000
structure Env.Len (x : Env) : Prop where
  bl : x.b.length = 16
  ol : x.o.length = 16
  nl : x.n.length = 16
  cl : x.c.length = 32
  gl : x.g.length = 32
  tl : x.t.length = 16
theorem Env.Ok.toLen {x : Env} (h : x.Ok) : x.Len := ⟨h.bl, h.ol, h.nl, h.cl, h.gl, h.tl⟩
theorem put_mid {α : Type} (p o q d : List α) (K n : Nat) (hp : p.length = K) (ho : o.length = n) (hd : d.length = n) : (p ++ o ++ q).take K ++ d ++ (p ++ o ++ q).drop (K + n) = p ++ d ++ q := by
  have e1 : (p ++ o ++ q).take K = p := by rw [List.append_assoc, List.take_append_of_le_length (by omega), List.take_of_length_le (by omega)]
  have e2 : (p ++ o ++ q).drop (K + n) = q := by rw [List.drop_append_of_le_length (by simp; omega), List.drop_of_length_le (by simp; omega), List.nil_append]
  rw [e1, e2]
theorem Env.cs_split (x : Env) : x.cs = [.int .i64 x.v, .int .i64 x.e] ++ x.b.map (Value.int .u8) ++ x.o.map (Value.int .u8) ++ x.n.map (Value.int .u8) ++ x.c.map (Value.int .u8) ++ x.g.map (Value.int .u8) ++ x.t.map (Value.int .u8) := by
  rw [Env.cs_eq]; unfold Env.octs; simp
theorem Env.Len.csl {x : Env} (h : x.Len) : x.cs.length = 130 := by rw [Env.cs_split]; simp [h.bl, h.ol, h.nl, h.cl, h.gl, h.tl]
theorem env_put_g {x : Env} (h : x.Len) (d : List Int) (hd : d.length = 32) : x.cs.take 82 ++ d.map (Value.int .u8) ++ x.cs.drop (82 + (d.map (Value.int .u8)).length) = ({x with g := d} : Env).cs := by
  have e1 : x.cs = ([.int .i64 x.v, .int .i64 x.e] ++ x.b.map (Value.int .u8) ++ x.o.map (Value.int .u8) ++ x.n.map (Value.int .u8) ++ x.c.map (Value.int .u8)) ++ x.g.map (Value.int .u8) ++ (x.t.map (Value.int .u8)) := by rw [Env.cs_split] <;> simp
  have e2 : ({x with g := d} : Env).cs = ([.int .i64 x.v, .int .i64 x.e] ++ x.b.map (Value.int .u8) ++ x.o.map (Value.int .u8) ++ x.n.map (Value.int .u8) ++ x.c.map (Value.int .u8)) ++ d.map (Value.int .u8) ++ (x.t.map (Value.int .u8)) := by rw [Env.cs_split] <;> simp
  rw [e1, e2, show 82 + (d.map (Value.int .u8)).length = 82 + 32 by rw [List.length_map, hd]]
  exact put_mid _ _ _ _ 82 32 (by simp [h.bl, h.ol, h.nl, h.cl, h.gl, h.tl]) (by simp [h.bl, h.ol, h.nl, h.cl, h.gl, h.tl]) (by simp [hd])
theorem env_put_t {x : Env} (h : x.Len) (d : List Int) (hd : d.length = 16) : x.cs.take 114 ++ d.map (Value.int .u8) ++ x.cs.drop (114 + (d.map (Value.int .u8)).length) = ({x with t := d} : Env).cs := by
  have e1 : x.cs = ([.int .i64 x.v, .int .i64 x.e] ++ x.b.map (Value.int .u8) ++ x.o.map (Value.int .u8) ++ x.n.map (Value.int .u8) ++ x.c.map (Value.int .u8) ++ x.g.map (Value.int .u8)) ++ x.t.map (Value.int .u8) ++ ([]) := by rw [Env.cs_split] <;> simp
  have e2 : ({x with t := d} : Env).cs = ([.int .i64 x.v, .int .i64 x.e] ++ x.b.map (Value.int .u8) ++ x.o.map (Value.int .u8) ++ x.n.map (Value.int .u8) ++ x.c.map (Value.int .u8) ++ x.g.map (Value.int .u8)) ++ d.map (Value.int .u8) ++ ([]) := by rw [Env.cs_split] <;> simp
  rw [e1, e2, show 114 + (d.map (Value.int .u8)).length = 114 + 16 by rw [List.length_map, hd]]
  exact put_mid _ _ _ _ 114 16 (by simp [h.bl, h.ol, h.nl, h.cl, h.gl, h.tl]) (by simp [h.bl, h.ol, h.nl, h.cl, h.gl, h.tl]) (by simp [hd])
theorem run_arrayAtNo (w : World) (a : Addr) (n cap : Nat) (hn : 16 ≤ n) : (Instr.arrayAt 25 (.slice (some a) n cap)).run Try.prog w = .ok (.pointer (some a)) w := by
  have h1 : ¬ n < 16 := by omega
  simp [Instr.arrayAt, run_underlying Try.underlying25, Result.andThen, h1]
theorem run_arrayAtA32 (w : World) (a : Addr) (n cap : Nat) (hn : 32 ≤ n) : (Instr.arrayAt 22 (.slice (some a) n cap)).run Try.prog w = .ok (.pointer (some a)) w := by
  have h1 : ¬ n < 32 := by omega
  simp [Instr.arrayAt, run_underlying Try.underlying22, Result.andThen, h1]
end Go.Proofs.Ytbljihhelladbaa.wr
namespace Go.Proofs.Ytbljihhelladbaa.wr
open Go.RowKit Go.Proofs.Ytbljihhelladbaa.st Go.Proofs.Ytbljihhelladbaa.hs Go.Proofs.Ytbljihhelladbaa.shr Go.Proofs.Ytbljihhelladbaa.sh
set_option linter.unusedSimpArgs false
set_option linter.unusedVariables false
set_option pp.maxSteps 6000
/-- octets, the first k of them made exclusive-or with others -/
def xorN (s l : List Int) (k : Nat) : List Int := (List.range s.length).map fun i => if i < k then bits .xor .u8 (s.getD i 0) (l.getD i 0) else s.getD i 0
def xorL (s l : List Int) : List Int := xorN s l s.length
theorem xorN_length (s l : List Int) (k : Nat) : (xorN s l k).length = s.length := by simp [xorN]
theorem xorN_get (s l : List Int) (k i : Nat) (hi : i < s.length) : (xorN s l k).getD i 0 = if i < k then bits .xor .u8 (s.getD i 0) (l.getD i 0) else s.getD i 0 := by simp [xorN, List.getD_eq_getElem?_getD, hi]
theorem xorN_zero (s l : List Int) : xorN s l 0 = s := by
  apply List.ext_getElem?
  intro i
  by_cases h : i < s.length
  · rw [List.getElem?_eq_getElem (by rw [xorN_length]; exact h), List.getElem?_eq_getElem h]
    have := xorN_get s l 0 i h
    rw [if_neg (Nat.not_lt_zero _), getD_lt' _ _ (by rw [xorN_length]; exact h), getD_lt' _ _ h] at this
    rw [this]
  · rw [List.getElem?_eq_none (by rw [xorN_length]; omega), List.getElem?_eq_none (by omega)]
theorem xorL_length (s l : List Int) : (xorL s l).length = s.length := xorN_length _ _ _
theorem xorL_octs {s l : List Int} (hs : Octs s) (hl : Octs l) : Octs (xorL s l) := by
  intro c hc
  unfold xorL xorN at hc
  obtain ⟨i, hi, rfl⟩ := List.mem_map.1 hc
  rw [if_pos (List.mem_range.1 hi)]
  exact xor_oct (hs.getD i) (hl.getD i)
/-- what Cover makes of a text -/
def coverL (k n t : List Int) : List Int := xorL (strmL k n t.length) t
theorem coverL_length (k n t : List Int) : (coverL k n t).length = t.length := by unfold coverL; rw [xorL_length, strmL_length]
theorem coverL_octs (k n : List Int) {t : List Int} (h : Octs t) : Octs (coverL k n t) := xorL_octs (strmL_octs _ _ _) h
/-- an own row that is not empty: its block -/
theorem own_blk {w : World} {base m c : Nat} {e : TypeId} {ao : Option Addr} {xs : List Value} (h : w.ownsRow base e 1 (.slice ao m c) m xs) (hm : 0 < m) : ∃ g cur, ao = some ⟨g, 0, none⟩ ∧ base ≤ g ∧ BlkV e w g cur ∧ m ≤ c ∧ c ≤ maxLen ∧ cur.length = c ∧ cur.take m = xs := by
  obtain ⟨_, h | ⟨g, cap, cur, hv, hg, hh, h1, h2, h3, h4⟩⟩ := h
  · simp at h; omega
  · cases hv
    refine ⟨g, cur.toList, rfl, hg, hh, h1, h2, by simpa using h3, by simpa using h4⟩
theorem blk_own {w : World} {base m c g : Nat} {e : TypeId} {cur xs : List Value} (hg : base ≤ g) (h : BlkV e w g cur) (h1 : m ≤ c) (h2 : c ≤ maxLen) (h3 : cur.length = c) (h4 : cur.take m = xs) : w.ownsRow base e 1 (.slice (some ⟨g, 0, none⟩) m c) m xs := by
  refine ⟨by rw [← h4, List.length_take]; omega, Or.inr ⟨g, c, cur.toArray, rfl, hg, h, h1, h2, by simpa using h3, by simpa using h4⟩⟩
/-- the first m cells of a block are octets -/
def Cells (cur : List Value) (m : Nat) (l : List Int) : Prop := ∀ i, i < m → cur[i]? = some (.int .u8 (l.getD i 0))
theorem cells_take {cur : List Value} {m : Nat} {l : List Int} (h : Cells cur m l) (hl : l.length = m) (hm : m ≤ cur.length) : cur.take m = l.map (Value.int .u8) := by
  apply List.ext_getElem?
  intro i
  rw [List.getElem?_take, List.getElem?_map]
  by_cases hi : i < m
  · rw [if_pos hi, h i hi, List.getElem?_eq_getElem (by omega), getD_lt' l 0 (by omega)]; rfl
  · rw [if_neg hi, List.getElem?_eq_none (by omega)]; rfl
theorem take_cells {cur : List Value} {m : Nat} {l : List Int} (h : cur.take m = l.map (Value.int .u8)) (hl : l.length = m) : Cells cur m l := by
  intro i hi
  have h1 : (cur.take m)[i]? = (l.map (Value.int .u8))[i]? := by rw [h]
  rw [List.getElem?_take, if_pos hi, List.getElem?_map, List.getElem?_eq_getElem (l := l) (by omega)] at h1
  rw [h1, getD_lt' l 0 (by omega)]; rfl
theorem cells_step {cur : List Value} {s l : List Int} {j : Nat} (h : Cells cur s.length (xorN s l j)) (hj : j < s.length) (hc : s.length ≤ cur.length) : Cells (cur.set j (.int .u8 (bits .xor .u8 (s.getD j 0) (l.getD j 0)))) s.length (xorN s l (j + 1)) := by
  intro i hi
  rw [List.getElem?_set, xorN_get s l (j + 1) i hi]
  by_cases e : j = i
  · subst e
    rw [if_pos rfl, if_pos (by omega), if_pos (by omega)]
  · rw [if_neg e, h i hi, xorN_get s l j i hi]
    by_cases h1 : i < j
    · rw [if_pos h1, if_pos (by omega)]
    · rw [if_neg h1, if_neg (by omega)]
set_option maxRecDepth 100000 in
set_option maxHeartbeats 2000000 in
theorem Cover_any (k n l : List Int) (ao : Option Addr) (cap m : Nat) (w : World) (hk : k.length = 32) (hn : n.length = 16) (ok : Octs k) (on : Octs n) (hml : m = l.length) (HP : Pt.Ok w ⟨ao, cap, l⟩) (hm : m ≤ 1048576) :
    Calls Try.prog 134 #[.agg (k.map (Value.int .u8)).toArray, .agg (n.map (Value.int .u8)).toArray, .slice ao m cap] w fun e w' => ∃ ao' c', e = .returned (.tuple #[.slice ao' m c', .int .i64 0]) ∧ Mine w' w.heap.size 5 1 (.slice ao' m c') m ((coverL k n l).map (Value.int .u8)) ∧ Below w.heap.size w w' := by
  obtain ⟨B, HB⟩ : ∃ B, Hid (B = w.heap.size) := ⟨_, rfl⟩
  have hsz : w.heap.size = B := HB.out.symm
  have hst := fun w => hid (Stream_any k n m w hk hn ok on hm)
  obtain ⟨K, HK⟩ : ∃ K, Hid (K = k.map (Value.int .u8)) := ⟨_, rfl⟩
  obtain ⟨N, HN⟩ : ∃ N, Hid (N = n.map (Value.int .u8)) := ⟨_, rfl⟩
  have hKl : K.length = 32 := by rw [HK.out, List.length_map, hk]
  have hNl : N.length = 16 := by rw [HN.out, List.length_map, hn]
  rw [← HK.out, ← HN.out] at hst ⊢
  obtain ⟨S, HS⟩ : ∃ S, Hid (S = strmL k n m) := ⟨_, rfl⟩
  rw [← HS.out] at hst
  have hSl : Hid (S.length = m) := hid (by rw [HS.out]; exact strmL_length _ _ _)
  have hCL : Hid (coverL k n l = xorN S l m) := hid (by unfold coverL xorL; rw [← hml, strmL_length, HS.out])
  have hLl := hid hml
  have hrow := HP.row
  have hlt := fun b h => HP.lt b h
  clear hml HP hk hn
  go_enter Try.func134, Try.ntmps134
  go_wp2_with (first | (refine wl_boxV rfl 23 _ rfl K rfl B hsz ?_; intro w0 hB0 hb0 hs0) | (refine wl_boxV rfl 25 _ rfl N rfl (B + 1) hs0 ?_; intro w1 hN1 hb1 hs1; have hB1 := hB0.below hb1 (by omega); have bb1 := hb0.trans (hb1.mono (by omega : B ≤ _)); clear hB0 hb0 hb1) | (refine wl_load rfl 23 _ rfl ⟨B, 0, none⟩ rfl K (by rw [hKl]; exact aggKey) hB1.at0 ?_) | (refine wl_load rfl 25 _ rfl ⟨B + 1, 0, none⟩ rfl N (by rw [hNl]; exact aggNo) hN1.at0 ?_) | (go_at_call 150; refine (hst w1).out.mono ?_; rintro e w2 ⟨ao2, c2, rfl, hM2, hb2⟩; have bb2 := bb1.trans (hb2.mono (by omega : B ≤ _)); have hs2 := hb2.size; have hM2' := hM2.mono (by omega : B ≤ _); clear hB1 hN1 bb1 hb2 hM2))
  by_cases hm0 : m = 0
  · subst hm0
    go_loopw [25] (fun i wr => i = .int .i64 0 ∧ wr = w2) (fun _ _ => 0)
    case atStart => exact ⟨rfl, rfl⟩
    case round =>
      obtain ⟨rfl, rfl⟩ := hrel
      go_wp2
      go_ret2
      refine ⟨_, _, rfl, ?_, by rw [← HB.out]; exact bb2⟩
      rw [hCL.out, xorN_zero, ← HB.out]
      exact hM2'
  · obtain ⟨g, cur, rfl, hg, hG, h1, h2, h3, h4⟩ := own_blk (mine_own hM2' (by omega)) (by omega)
    have hC0 := hid (take_cells h4 hSl.out)
    have h3' := hid h3
    have hgl := hG.lt
    clear hM2' h4 h3
    go_loopw [25] (fun i wr => ∃ (j : Nat) (cu : List Value), j ≤ m ∧ i = .int .i64 j ∧ BlkV 5 wr g cu ∧ cu.length = c2 ∧ Cells cu m (xorN S l j) ∧ Below B w wr ∧ w2.grownBy wr (some g)) (fun i _ => m - (intOf i).toNat)
    case atStart => exact ⟨0, cur, by omega, rfl, hG, h3'.out, by rw [xorN_zero]; exact hC0.out, bb2, World.grownBy.refl _ _⟩
    case round =>
      clear hG bb2
      obtain ⟨j, cu, hj, rfl, hG, hcu, hcs, bbr, hgr⟩ := hrel
      by_cases h0 : j < m
      · have hjI : (j : Int) < (m : Int) := by omega
        have hjI0 : (0 : Int) ≤ (j : Int) := by omega
        obtain ⟨b, off, c, rfl, hb, HC, hcell⟩ := hrow.elem (i := j) (by rw [← hLl.out]; exact h0)
        have hcc := (bbr.cell (p := ⟨b, off + j, none⟩) (by show b < B; omega)).trans hcell
        obtain ⟨x, Hx⟩ : ∃ x, Hid (x = S.getD j 0) := ⟨_, rfl⟩
        have cX := (hG.cell j).trans (hcs j h0)
        rw [xorN_get S l j j (by rw [hSl.out]; exact h0), if_neg (Nat.lt_irrefl j), ← Hx.out] at cX
        have fX := hG.frozen j
        have hjc : (j : Int) < (c2 : Int) := by omega
        have hst := hid (cells_step (l := l) (j := j) (s := S) (cur := cu) (by rw [hSl.out]; exact hcs) (by rw [hSl.out]; exact h0) (by rw [hSl.out, hcu]; exact h1))
        rw [hSl.out, ← Hx.out, ← HC.out] at hst
        have HCU := hid hcu
        clear hcs hcu
        go_wp2
        go_roundw
        case rel => exact ⟨j + 1, _, by omega, by go_num, hG.set j _, by rw [List.length_set]; exact HCU.out, hst.out, bbr.setCell (by simp; omega) _, grown_set hgr _ _⟩
        case measure => simp [intOf] <;> omega
      · obtain rfl : j = m := by omega
        have HCU := hid hcu
        have HCS := hid hcs
        clear hcs hcu
        go_wp2
        go_ret2
        refine ⟨_, _, rfl, Or.inl (blk_own (by rw [← HB.out]; exact hg) hG h1 h2 HCU.out ?_), by rw [← HB.out]; exact bbr⟩
        rw [hCL.out]
        exact cells_take HCS.out (by rw [xorN_length, hSl.out]) (by rw [HCU.out]; exact h1)
def wrapS : List Int := [119, 114, 97, 112]
def tagS : List Int := [116, 97, 103]
theorem wrapS_octs : Octs wrapS := by
  intro c hc
  unfold wrapS at hc
  simp only [List.mem_cons, List.not_mem_nil, or_false] at hc
  rcases hc with rfl | rfl | rfl | rfl <;> exact ⟨by decide, by decide⟩
theorem tagS_octs : Octs tagS := by
  intro c hc
  unfold tagS at hc
  simp only [List.mem_cons, List.not_mem_nil, or_false] at hc
  rcases hc with rfl | rfl | rfl <;> exact ⟨by decide, by decide⟩
theorem wrapS_name : isName (strOfNums wrapS) = true := by decide
theorem tagS_name : isName (strOfNums tagS) = true := by decide
theorem deriveL_octs (k L : List Int) (e : Int) : Octs (deriveL k L e) := sumL_octs _ _
theorem zeroA32' : (Try.prog.info? 22).map (·.zero) = some (some (.agg ((List.replicate 32 (0 : Int)).map (Value.int .u8)).toArray)) := by kernel_rfl
/-- the key, covered or uncovered -/
def wrapL (k : List Int) (e : Int) (n s : List Int) : List Int := coverL (deriveL k wrapS e) n s
theorem wrapL_length (k : List Int) (e : Int) (n s : List Int) : (wrapL k e n s).length = s.length := coverL_length _ _ _
/-- the text of an envelope's tag; the tag -/
def tagT (x : Env) (c : List Int) : List Int := if x.v = 1 then aheadL x ++ c else aheadL x
def tagX (k : List Int) (x : Env) (c : List Int) : List Int := tagL (deriveL k tagS x.e) (tagT x c)
theorem tagX_length (k : List Int) (x : Env) (c : List Int) : (tagX k x c).length = 16 := tagL_length _ _
set_option maxRecDepth 100000 in
set_option maxHeartbeats 2000000 in
theorem cover_any (k : List Int) (e : Int) (n s : List Int) (w : World) (hk : k.length = 32) (ok : Octs k) (he : 0 ≤ e ∧ e ≤ 4294967295) (hn : n.length = 16) (on : Octs n) (hs : s.length = 32) (os : Octs s) :
    Calls Try.prog 176 #[.agg (k.map (Value.int .u8)).toArray, .int .i64 e, .agg (n.map (Value.int .u8)).toArray, .agg (s.map (Value.int .u8)).toArray] w fun r w' => r = .returned (.agg ((wrapL k e n s).map (Value.int .u8)).toArray) ∧ Below w.heap.size w w' := by
  obtain ⟨B, HB⟩ : ∃ B, Hid (B = w.heap.size) := ⟨_, rfl⟩
  have hsz : w.heap.size = B := HB.out.symm
  obtain ⟨K, HK⟩ : ∃ K, Hid (K = k.map (Value.int .u8)) := ⟨_, rfl⟩
  obtain ⟨N, HN⟩ : ∃ N, Hid (N = n.map (Value.int .u8)) := ⟨_, rfl⟩
  obtain ⟨S, HS⟩ : ∃ S, Hid (S = s.map (Value.int .u8)) := ⟨_, rfl⟩
  obtain ⟨Z, HZ⟩ : ∃ Z, Hid (Z = (List.replicate 32 (0 : Int)).map (Value.int .u8)) := ⟨_, rfl⟩
  have hKl : K.length = 32 := by rw [HK.out, List.length_map, hk]
  have hNl : N.length = 16 := by rw [HN.out, List.length_map, hn]
  have hSl : S.length = 32 := by rw [HS.out, List.length_map, hs]
  have hZl : Z.length = 32 := by rw [HZ.out]; simp
  have hzA := hid zeroA32'
  have hzK := hid zeroKey
  rw [← HZ.out] at hzA hzK
  have hde := fun w => hid (Derive_ok k hk ok wrapS wrapS_octs wrapS_name e he w)
  obtain ⟨kd, HKD⟩ : ∃ kd, Hid (kd = deriveL k wrapS e) := ⟨_, rfl⟩
  have hkd : kd.length = 32 := by rw [HKD.out]; exact deriveL_length _ _ _
  have okd : Octs kd := by rw [HKD.out]; exact deriveL_octs _ _ _
  have HW : Hid (wrapL k e n s = coverL kd n s) := hid (by unfold wrapL; rw [HKD.out])
  obtain ⟨KW, HKW⟩ : ∃ KW, Hid (KW = kd.map (Value.int .u8)) := ⟨_, rfl⟩
  have hKWl : KW.length = 32 := by rw [HKW.out, List.length_map, hkd]
  have hKW1 : ∀ u ∈ KW, u.oneCell' = true := by rw [HKW.out]; exact ints_one _ _
  rw [← HKD.out, ← HKW.out] at hde
  have hcv := fun w (HP : Pt.Ok w ⟨some ⟨B + 2, 0, none⟩, 32, s⟩) => hid (Cover_any kd n s (some ⟨B + 2, 0, none⟩) 32 32 w hkd hn okd on hs.symm HP (by decide))
  rw [← HKW.out, ← HN.out] at hcv
  obtain ⟨V, HV⟩ : ∃ V, Hid (V = (coverL kd n s).map (Value.int .u8)) := ⟨_, rfl⟩
  have hVl : V.length = 32 := by rw [HV.out, List.length_map, coverL_length, hs]
  have hV1 : ∀ u ∈ V, u.oneCell' = true := by rw [HV.out]; exact ints_one _ _
  rw [← HV.out] at hcv
  rw [HW.out, ← HV.out]
  have hal : Try.prog.arrayLen 22 = 32 := by kernel_rfl
  have hAC := fun w a n cap h => run_arrayAtA32 w a n cap h
  have hu23 := Try.underlying23
  have hi23 : (Try.prog.info? 23).map (·.size) = some KW.length := by rw [hKWl]; exact aggKey.2
  have hu25 := Try.underlying25
  have hi25 : (Try.prog.info? 25).map (·.size) = some N.length := by rw [hNl]; exact aggNo.2
  rw [← HK.out] at hde ⊢
  rw [← HN.out, ← HS.out]
  clear hk hn
  go_enter Try.func176, Try.ntmps176
  go_wp2_with (first | (refine wl_boxV rfl 23 _ rfl K rfl B hsz ?_; intro w0 hB0 hb0 hs0) | (refine wl_boxV rfl 25 _ rfl N rfl (B + 1) hs0 ?_; intro w1 hN1 hb1 hs1; have hB1 := hB0.below hb1 (by omega); have bb1 := hb0.trans (hb1.mono (by omega : B ≤ _)); clear hB0 hb0 hb1) | (refine wl_boxV rfl 22 _ rfl S rfl (B + 2) hs1 ?_; intro w2 hS2 hb2 hs2; have hB2 := hB1.below hb2 (by omega); have hN2 := hN1.below hb2 (by omega); have bb2 := bb1.trans (hb2.mono (by omega : B ≤ _)); clear hB1 hN1 bb1 hb2) | (refine wl_allocV rfl 22 rfl Z hzA.out (B + 3) hs2 ?_; intro w3 hR3 hb3 hs3; have hB3 := hB2.below hb3 (by omega); have hN3 := hN2.below hb3 (by omega); have hS3 := hS2.below hb3 (by omega); have bb3 := bb2.trans (hb3.mono (by omega : B ≤ _)); clear hB2 hN2 hS2 bb2 hb3) | (refine wl_load rfl 23 _ rfl ⟨B, 0, none⟩ rfl K (by rw [hKl]; exact aggKey) hB3.at0 ?_) | (go_at_call 211; refine (hde w3).out.mono ?_; rintro e w4 ⟨rfl, hb4⟩; have hN4 := hN3.below hb4 (by omega); have hS4 := hS3.below hb4 (by omega); have hR4 := hR3.below hb4 (by omega); have bb4 := bb3.trans (hb4.mono (by omega : B ≤ _)); have hs4 := hb4.size; clear hB3 hN3 hS3 hR3 bb3 hb4) | (refine wl_allocV rfl 23 rfl Z hzK.out w4.heap.size rfl ?_; intro w5 hG5 hb5 hs5; have hN5 := hN4.below hb5 (by omega); have hS5 := hS4.below hb5 (by omega); have hR5 := hR4.below hb5 (by omega); have bb5 := bb4.trans (hb5.mono (by omega : B ≤ _)); clear hN4 hS4 hR4 bb4 hb5) | (refine wl_storeV rfl 23 _ _ rfl 23 w4.heap.size rfl KW rfl 32 aggKey hKWl Z hG5 hZl hKW1 ?_; intro w6 hG6 hb6 hs6; have hN6 := hN5.below hb6 (by omega); have hS6 := hS5.below hb6 (by omega); have hR6 := hR5.below hb6 (by omega); have bb6 := bb5.trans (hb6.mono (by omega : B ≤ _)); clear hG5 hN5 hS5 hR5 bb5 hb6))
  obtain ⟨g, Hg⟩ : ∃ g, Hid (g = w4.heap.size) := ⟨_, rfl⟩
  rw [← Hg.out] at hG6 ⊢
  have hg4 : B + 4 ≤ g := by have := Hg.out; omega
  have hs6' : g + 1 ≤ w6.heap.size := by have := Hg.out; omega
  have hPS : Pt.Ok w6.drew ⟨some ⟨B + 2, 0, none⟩, 32, s⟩ := ⟨RowV.i (by rw [← HS.out]; exact at_row (w := w6.drew) (by show B + 2 < w6.heap.size; omega) hS6.at0), by show s.length ≤ 32; omega, by show (32 : Nat) ≤ maxLen; decide, os, fun b e => by cases e; show B + 2 < w6.heap.size; omega⟩
  clear hS6 hs5 hs6 hs4 hs3
  refine wp_region_held_drew (S := (fun w' => w'.rangeAt g 0 KW ∧ w'.rangeAt (B + 1) 0 N)) (by kernel_rfl) ⟨at_range (w := w6.drew) hG6.at0, at_range (w := w6.drew) hN6.at0⟩ (fun hHeld => ?_)
  obtain ⟨y0, HY0⟩ : ∃ x, Hid (x = w6.drew) := ⟨_, rfl⟩
  rw [← HY0.out] at hHeld hPS ⊢
  have bb0 : Below B w y0 := by rw [HY0.out]; exact bb6.drew
  have hR0 : BlkV 22 y0 (B + 3) Z := by rw [HY0.out]; exact hR6
  have hsy0 : g + 1 ≤ y0.heap.size := by rw [HY0.out]; exact hs6'
  clear bb6 hR6 hN6 hG6 hs6'
  refine take_l (i := 0) (v := _) rfl (by kernel_rfl) (by kernel_rfl) (by kernel_rfl) (fun _ _ _ h => h) (yieldsIf_load_mid (by rfl) 23 _ rfl g 0 rfl KW _ (fun w hS => hS.1) hu23 rfl hi23) (by assumption) ?_
  try simp only [Act.put, List.setIfInBounds_toArray, List.set_cons_zero, List.set_cons_succ]
  refine take_l (i := 1) (v := _) rfl (by kernel_rfl) (by kernel_rfl) (by kernel_rfl) (fun _ _ _ h => h) (yieldsIf_load_mid (by rfl) 25 _ rfl (B + 1) 0 rfl N _ (fun w hS => hS.2) hu25 rfl hi25) (by assumption) ?_
  try simp only [Act.put, List.setIfInBounds_toArray, List.set_cons_zero, List.set_cons_succ]
  refine take_l (i := 2) (v := ?rv3) rfl (by kernel_rfl) (by kernel_rfl) (by kernel_rfl) (fun _ _ _ h => h) (Or.inl ⟨by rfl, ?rhy3⟩) (by assumption) ?rrest3
  case rhy3 => (intro w hSw; (try dsimp only at hSw); go_simp; (try with_reducible rfl))
  try simp only [Act.put, List.setIfInBounds_toArray, List.set_cons_zero, List.set_cons_succ]
  refine wpAnyH_ready (rs := [3]) (by kernel_rfl) (by simp) (cons_l rfl (fun K' hK' => ?_) AllReadyH.nil)
  rw [if_pos (by rfl)]
  go_simp
  go_at_call 134
  refine (hcv y0 hPS).out.mono ?_
  rintro e y1 ⟨ao1, c1, rfl, hM1, hb1⟩
  have hR1 := hR0.below hb1 (by omega)
  have bb1 := bb0.trans (hb1.mono (by omega : B ≤ _))
  have hsy1 := hb1.size
  refine hK'.out _ _ ⟨fun j u hu => (hb1.cell (p := ⟨g, 0 + j, none⟩) (by show g < _; omega)).trans (hHeld.1 j u hu), fun j u hu => (hb1.cell (p := ⟨B + 1, 0 + j, none⟩) (by show B + 1 < _; omega)).trans (hHeld.2 j u hu)⟩ (fun hHeld => ?_)
  clear hK' K'
  try simp only [Act.put, List.setIfInBounds_toArray, List.set_cons_zero, List.set_cons_succ]
  refine take_l (i := 4) (v := ?rv4) rfl (by kernel_rfl) (by kernel_rfl) (by kernel_rfl) (fun _ _ _ h => h) (Or.inl ⟨by rfl, ?rhy4⟩) (by assumption) ?rrest4
  case rhy4 => (intro w hSw; (try dsimp only at hSw); go_simp; (try with_reducible rfl))
  try simp only [Act.put, List.setIfInBounds_toArray, List.set_cons_zero, List.set_cons_succ]
  refine take_l (i := 5) (v := ?rv5) rfl (by kernel_rfl) (by kernel_rfl) (by kernel_rfl) (fun _ _ _ h => h) (Or.inl ⟨by rfl, ?rhy5⟩) (by assumption) ?rrest5
  case rhy5 => (intro w hSw; (try dsimp only at hSw); go_simp; (try with_reducible rfl))
  try simp only [Act.put, List.setIfInBounds_toArray, List.set_cons_zero, List.set_cons_succ]
  refine take_l (i := 6) (v := ?rv6) rfl (by kernel_rfl) (by kernel_rfl) (by kernel_rfl) (fun _ _ _ h => h) (Or.inl ⟨by rfl, ?rhy6⟩) (by assumption) ?rrest6
  case rhy6 => (intro w hSw; (try dsimp only at hSw); go_simp; (try with_reducible rfl))
  try simp only [Act.put, List.setIfInBounds_toArray, List.set_cons_zero, List.set_cons_succ]
  refine take_l (i := 7) (v := ?rv7) rfl (by kernel_rfl) (by kernel_rfl) (by kernel_rfl) (fun _ _ _ h => h) (Or.inl ⟨by rfl, ?rhy7⟩) (by assumption) ?rrest7
  case rhy7 => (intro w hSw; (try dsimp only at hSw); go_simp; (try with_reducible rfl))
  try simp only [Act.put, List.setIfInBounds_toArray, List.set_cons_zero, List.set_cons_succ]
  refine take_l (i := 8) (v := ?rv8) rfl (by kernel_rfl) (by kernel_rfl) (by kernel_rfl) (fun _ _ _ h => h) (Or.inl ⟨by rfl, ?rhy8⟩) (by assumption) ?rrest8
  case rhy8 => (intro w hSw; (try dsimp only at hSw); go_simp; (try with_reducible rfl))
  try simp only [Act.put, List.setIfInBounds_toArray, List.set_cons_zero, List.set_cons_succ]
  refine wpAnyH_done (by kernel_rfl) ?_ _
  obtain ⟨gM, cur, rfl, hgM, hGM, h1, h2, h3, h4⟩ := own_blk (mine_own hM1 (by decide)) (by decide)
  have hAM : At y1 ⟨gM, 0, none⟩ V := fun j u hu => by
    rw [addr_add, Nat.zero_add, hGM.cell]
    rw [← h4, List.getElem?_take] at hu
    split at hu
    · exact hu
    · cases hu
  clear hHeld hM1 hb1 h4 h3 hR0 bb0 hPS
  go_wp2_with (first | (refine wl_load rfl 22 _ rfl ⟨gM, 0, none⟩ rfl V (by rw [hVl]; exact agg32) hAM ?_) | (refine wl_storeV rfl 22 _ _ rfl 22 (B + 3) rfl V rfl 32 agg32 hVl Z hR1 hZl hV1 ?_; intro wF hRF hbF hsF))
  (try simp only [Exit.inBlock, Exit.then]); refine bodyPost_ret (results_cell rfl _ _ _ _ rfl V (by rw [hVl]; exact agg32) hRF.at0) rfl ?_
  exact ⟨rfl, by first | exact bb1.trans (hbF.mono (by omega)) | (rw [hsz]; exact bb1.trans (hbF.mono (by omega)))⟩
end Go.Proofs.Ytbljihhelladbaa.wr
