/-
  The reference of sums: state, Sum, short, Framed. Conditions: as each theorem says.
-/
import Derived.Test.YtdhipjoplkpgmaaGreatDoorHShUW
set_option maxRecDepth 100000
set_option linter.unusedSimpArgs false
set_option linter.unusedVariables false
set_option maxHeartbeats 1000000
namespace Go.Proofs.YtdhipjoplkpgmaaGreatDoor.hs
open Go.RowKit st shr
theorem zeroCells8 (n : Nat) : Builtin.zeroCells (Value.int .u8 0).cells n = ((List.replicate n (0 : Int)).map (Value.int .u8)).toArray := by
 apply Array.ext
 ·simp [Builtin.zeroCells, Value.cells]
 ·intro i h1 h2
  simp [Builtin.zeroCells, Value.cells]
  rw [Nat.mod_one]; rfl
theorem run_append_make (w : World) (ty : TypeId) (base m : Nat) (v : Value) (n : Nat) (xs : List Value) (hown : w.ownsRow base 5 1 v n xs) (hn0 : 0 < n) (hm0 : 0 < m) (hb : n + m ≤ 1099511627776) (hbase : base ≤ w.heap.size) :
  ∃ v' w', (Builtin.append_ #[61, 3] ty #[v, .int .i64 (m : Int)]).run Tryz.prog w = .ok v' w' ∧ w'.ownsRow base 5 1 v' (n + m) (xs ++ (List.replicate m (0 : Int)).map (Value.int .u8)) ∧ w.grownBy w' v.ownBlock := by
 obtain ⟨i, hi, hz, hs, hby⟩ := (info8 : Info Tryz.prog 5 (.int .u8 0) 1 1).parts
 have ht := Tryz.underlying61
 have htn := Tryz.underlying3
 rcases hown.2 with ⟨rfl, h⟩ | ⟨g, cap, cur, rfl, hbg, hg, hnc, hcm, hcs, htake⟩
 ·omega
 ·have hw : IntKind.i64.wrap (m : Int) = m := by rw [IntKind.wrap_i64]; omega
  have hneg : ¬ ((m : Int) < 0) := by omega
  have hm : m ≠ 0 := by omega
  have h48i : ¬ (281474976710656 < (m : Int) * (i.bytes : Int)) := by rw [hby]; omega
  have hlx : xs.length = n := by simpa using hown.1
  have hl : ((List.replicate m (0 : Int)).map (Value.int .u8)).length = m := by simp
  obtain ⟨Z, HZ⟩ : ∃ Z, Z = (List.replicate m (0 : Int)).map (Value.int .u8) := ⟨_, rfl⟩
  have hz1 : ∀ u ∈ Z, u.oneCell' = true := by rw [HZ]; exact ints_one _ _
  have hzc : Builtin.zeroCells (Value.int .u8 0).cells m = Z.toArray := by rw [HZ]; exact zeroCells8 m
  rw [← HZ] at hl ⊢
  have hlen : (xs ++ Z).length = (n + m) * 1 := by rw [List.length_append, hlx, hl]; omega
  by_cases hroom : n + m ≤ cap
  ·have hst := run_storeCells_at Tryz.prog g n 5 Z 0 cur w hg (by rw [hl]; simp at hcs; omega) hz1
   simp only [Nat.add_zero] at hst
   refine ⟨.slice (some ⟨g, 0, none⟩) (n + m) cap, w.setRow g (cur.toList.take n ++ Z ++ cur.toList.drop (n + Z.length)).toArray, ?_, ⟨hlen, .inr ⟨g, cap, _, rfl, hbg, setRow_heap w g cur _ 5 _ hg, hroom, hcm, ?_, ?_⟩⟩, ⟨rfl, rfl, rfl, by simp, fun k _ hk => setRow_other w g k _ (fun e => hk (by simp [Value.ownBlock, e]))⟩⟩
   ·simp [Builtin.append_, run_underlying ht, run_underlying htn, sizeOf, typeInfo, zeroValue, hi, hz, hs, asInt, asIntOf, hw, hneg, h48i, hm, hroom, hzc, Addr.add_lit, hst]
   ·simp only [List.size_toArray, List.length_append, List.length_take, List.length_drop, Array.length_toList]
    simp at hcs; omega
   ·have e1 : cur.toList.take n = xs := by simpa using htake
    rw [e1, ← hlen]
    exact List.take_left
  ·have holds : ∀ j u, xs[j]? = some u → w.cell? ((⟨g, 0, none⟩ : Addr).add j) = some u := hown.cells (g := g) rfl
   have hge := grownCap_ge w (n + m) cap 5
   have hcm' : grownCap w (n + m) cap 5 ≤ maxLen := grownCap_le_maxLen w (n + m) cap 5 (by unfold maxLen; omega)
   have h63' : ¬ (9223372036854775807 < ((n : Int) + (m : Int))) := by omega
   have hfit := growslice_fits (need := n + m) (old := cap) (bytes := i.bytes) (by omega) (by rw [hby]; omega)
   have h48' : ¬ (281474976710656 < Builtin.nextslicecap (n + m) cap * i.bytes) := by omega
   have hfo := run_firstCells_some (P := Tryz.prog) w.drew 1 n ⟨g, 0, none⟩ n cap xs (by simpa using hown.1) (by simpa using holds)
   refine ⟨.slice (some ⟨w.heap.size, 0, none⟩) (n + m) (grownCap w (n + m) cap 5), w.drew.alloc (.cells (xs.toArray ++ Z.toArray ++ Builtin.zeroCells (Value.int .u8 0).cells (grownCap w (n + m) cap 5 - (n + m))) 5), ?_, ⟨hlen, .inr ⟨w.heap.size, _, _, rfl, hbase, heap_alloc_new w.drew _, hge, hcm', ?_, ?_⟩⟩, ⟨rfl, rfl, rfl, by simp, fun k hk _ => Below.heap_alloc w.drew _ k hk⟩⟩
   ·simp [Builtin.append_, run_underlying ht, run_underlying htn, sizeOf, typeInfo, zeroValue, hi, hz, hs, asInt, asIntOf, hw, hneg, h48i, hm, hroom, hzc, h63', h48', Question.forced, hfo, newRow, grownCap]
    have eA : (xs ++ Z).toArray = xs.toArray ++ Z.toArray := by apply Array.ext'; simp
    rw [eA, Array.append_assoc]
   ·simp only [Array.size_append, List.size_toArray, size_zeroCells, hlx, hl]
    simp [Value.cells]; omega
   ·simp only [Array.toList_append, List.append_assoc]
    rw [← List.append_assoc, ← hlen]
    exact List.take_left
theorem wl_appendMake {w : World} {ops : Array Oper} {rest : List Oper} {o : Oper} {a : Act} {Q : Exit → Act → World → Prop} (hgd : o.guard = none) (s x : Operand)
  (ho : o.op = .call { callee := .builtin .append, args := #[s, x], argTypes := #[61, 3] }) (base m : Nat) (v : Value) (n : Nat) (xs : List Value) (hs : a.eval s = v) (hx : a.eval x = .int .i64 (m : Int)) (hown : w.ownsRow base 5 1 v n xs) (hn0 : 0 < n) (hm0 : 0 < m) (hb : n + m ≤ 1099511627776) (hbase : base ≤ w.heap.size) (N : Nat) (hN : N = n + m)
  (hK : ∀ ao' cap' w', N ≤ cap' → w'.ownsRow base 5 1 (.slice ao' N cap') N (xs ++ (List.replicate m (0 : Int)).map (Value.int .u8)) → w.grownBy w' v.ownBlock → wpList Tryz.prog ops Q rest (a.put o.dst (.slice ao' N cap')) w') : wpList Tryz.prog ops Q (o :: rest) a w := by
 subst hN
 obtain ⟨v', w', hrun, r1, r2⟩ := run_append_make w o.type base m v n xs hown hn0 hm0 hb hbase
 obtain ⟨ao', cap', rfl, h2, h3⟩ := Mine.row (Or.inl r1)
 exact Lib.wpList_append_run w hgd s x _ _ ho _ _ hs hx _ _ hrun (hK ao' cap' w' h2 r1 r2)
theorem cloneB (ao : Option Addr) (n cap : Nat) (cs : List Value) (w : World) (hr : RowV w ao cs) (hl : cs.length = n * 1) (h1 : ∀ u ∈ cs, u.oneCell' = true) (hno : ao = none → cap = 0 ∧ n = 0) (hb : n ≤ 140737488355328) :
  Calls Tryz.prog 44 #[.slice ao n cap] w fun e w' => ∃ v, e = .returned v ∧ Mine w' w.heap.size 5 1 v n cs ∧ Below w.heap.size w w' := by
 have hq := fun w => Lib.run_eql_slice_nil (P := Tryz.prog) w 61 5 ao n cap 0 0 Tryz.underlying61
 have hL := hid hl; clear hl
 cases ao with
 | none =>
  obtain ⟨rfl, rfl⟩ := hno rfl
  obtain rfl : cs = [] := List.eq_nil_of_length_eq_zero (by have := hL.out; omega)
  go_enter Tryz.func44, Tryz.ntmps44
  go_wp2
  go_ret
  exact ⟨_, rfl, Mine.nil _ _ _ _, Below.refl _ _⟩
 | some a =>
  go_enter Tryz.func44, Tryz.ntmps44
  go_wp2_with (at_builtin; refine wl_append rfl _ _ 61 rfl 5 (.int .u8 0) 1 1 Tryz.underlying61 info8 rfl (by decide) w.heap.size _ 0 [] rfl (Or.inr ⟨rfl, rfl, _, rfl⟩) (some a) n cap rfl (fun h => by cases h) cs hL.out (hr.alloc _) h1 (by unfold maxLen; omega) (by omega) (by simp) ?_; intro v' w' row hM hg hrow)
  go_ret
  rw [Nat.zero_add, List.nil_append] at hM
  exact ⟨_, rfl, hM, slInt.bel2 ((Below.refl _ _).alloc (Nat.le_refl _) _) hg fun k hk => (hrow k hk).1⟩
end Go.Proofs.YtdhipjoplkpgmaaGreatDoor.hs
namespace Go.Proofs.YtdhipjoplkpgmaaGreatDoor.hs
open Go.RowKit st shr
theorem mine_own {w : World} {base : Nat} {e : TypeId} {size : Nat} {v : Value} {n : Nat} {xs : List Value} (h : Mine w base e size v n xs) (hn : 0 < n) : w.ownsRow base e size v n xs := by
 rcases h with h | ⟨h, _⟩
 ·exact h
 ·omega
theorem blk_grown {t : TypeId} {w w' : World} {g base : Nat} {cs : List Value} {row : Option Nat} (h : BlkV t w g cs) (hg : w.grownBy w' row) (hr : ∀ k, row = some k → base ≤ k) (hlt : g < base) : BlkV t w' g cs :=
 h.grown hg (by intro e; have := hr g e; omega)
def fullOf (l : List Int) : List Int := padOf l ++ (List.replicate 24 0 ++ o8 l.length)
theorem fullOf_end (s0 l : List Int) : absN s0 (fullOf l) ((padOf l).length / 32 + 1) = endL s0 l := by
 have h := padOf_length l
 unfold endL
 show absorb (absN s0 (fullOf l) ((padOf l).length / 32)) _ = _
 unfold fullOf
 rw [absN_append s0 _ _ _ (by omega), List.drop_append_of_le_length (by omega), List.drop_of_length_le (by omega), List.nil_append, List.take_of_length_le (by simp [o8])]
theorem fullOf_length (l : List Int) : (fullOf l).length = 32 * ((padOf l).length / 32 + 1) := by
 have h := padOf_length l
 unfold fullOf
 simp only [List.length_append, List.length_replicate]
 have : (o8 (l.length : Int)).length = 8 := rfl
 omega
theorem fullOf_octs {l : List Int} (h : Octs l) : Octs (fullOf l) := by
 intro c hc
 unfold fullOf padOf at hc
 rcases List.mem_append.1 hc with h1 | h1
 ·rcases List.mem_append.1 h1 with h2 | h2
  ·rcases List.mem_append.1 h2 with h3 | h3
   ·exact h c h3
   ·simp at h3; subst h3; exact ⟨by decide, by decide⟩
  ·exact zeros_octs _ c h2
 ·rcases List.mem_append.1 h1 with h2 | h2
  ·exact zeros_octs _ c h2
  ·exact o8_octs _ c h2
theorem stateR (d : Int) (hd : Oct d) (ao : Option Addr) (cap n : Nat) (l : List Int) (w : World) (hn : n = l.length) (HP : Pt.Ok w ⟨ao, cap, l⟩) (hno : ao = none → cap = 0 ∧ n = 0) (hm : n ≤ 2097152) :
  Calls Tryz.prog 106 #[.int .i64 d, .slice ao n cap] w fun e w' => e = .returned (.agg ((endL (start d) l).map (Value.int .u8)).toArray) ∧ Below w.heap.size w w' := by
 obtain ⟨Z, HZ⟩ := hidE ((List.replicate 64 (0 : Int)).map (Value.int .u8))
 have hz64 := hid zeroA64
 rw [← HZ.out] at hz64
 have hZl : Z.length = 64 := by rw [HZ.out]; simp
 obtain ⟨B, HB⟩ := hidE w.heap.size
 have hsz : w.heap.size = B := HB.out.symm
 have HN := hid hn
 have h1 := hd.1
 have h3 : d < 256 := by have := hd.2; omega
 have hal : Tryz.prog.arrayLen 53 = 64 := by kernel_rfl
 have hcl := fun w' (hb : Below B w w') => hid (cloneB ao n cap (l.map (Value.int .u8)) w' (HP.below (hsz ▸ hb)).row.v (by rw [List.length_map, HN.out]; simp) (ints_one _ _) hno (by omega))
 clear hn
 obtain ⟨S0, HS0⟩ : ∃ S : List Int, Hid (S = start d) := ⟨_, rfl⟩
 have hS0l : S0.length = 64 := by rw [HS0.out]; exact start_length d
 have hS0o : Octs S0 := by rw [HS0.out]; exact start_octs hd
 obtain ⟨T, HT⟩ : ∃ T : List Int, Hid (T = l ++ [(128 : Int)]) := ⟨_, rfl⟩
 have e0 : (List.map (Value.int .u8) l ++ [Value.int .u8 128]) = T.map (Value.int .u8) := by rw [HT.out]; simp
 have HE0 := hid e0
 clear e0
 go_enter Tryz.func106, Tryz.ntmps106
 go_wp2_with (first | (refine wl_allocV rfl 53 rfl Z hz64.out B hsz ?_; intro w1 hR1 hb1 hs1) | (refine wl_allocV rfl 53 rfl Z hz64.out (B + 1) hs1 ?_; intro w2 hS2 hb2 hs2; have hR2 := hR1.below hb2 (by omega); have bb2 : Below B w w2 := hb1.trans (hb2.mono (by omega)); clear hR1 hb1 hb2) | (refine wl_setV rfl 5 _ _ rfl 53 (B + 1) 63 rfl (.int .u8 d) rfl rfl rfl size5 _ hS2 (by rw [hZl]; decide) ?_; intro w3 hS3 hg3 hs3; have hR3 := hR2.grown hg3 (by intro e; have := Option.some.inj e; omega); have bb3 : Below B w w3 := bb2.trans (below_of_grown hg3 (by omega) (by omega)); clear hR2 bb2 hS2) | (go_at_call 44; refine (hcl w3 bb3).out.mono ?_; rintro e w4 ⟨v, rfl, hM4, hb4⟩; have hR4 := hR3.below hb4 (by omega); have hS4 := hS3.below hb4 (by omega); have bb4 : Below B w w4 := bb3.trans (hb4.mono (by omega)); replace hM4 := hM4.mono (by omega : B + 2 ≤ w3.heap.size); have hsz4 : B + 2 ≤ w4.heap.size := (by have := hb4.size; omega); obtain ⟨ao4, cap4, rfl, hc4, hv4⟩ := hM4.row; clear hR3 hS3 bb3 hb4 hv4) | (at_builtin; refine wl_appendS rfl _ _ 61 rfl 5 (.int .u8 0) 1 1 Tryz.underlying61 info8 rfl (by decide) (B + 2) _ n (l.map (Value.int .u8)) rfl (hM4.belowAll ((Below.refl _ _).alloc (Nat.le_refl _) _)) (some ⟨w4.heap.size, 0, none⟩) 1 1 rfl (fun h => by cases h) [.int .u8 128] rfl (rowV_of (BlkV.new _ _ _ rfl)) (by intro u hu; simp at hu; subst hu; rfl) (by unfold maxLen; omega) (by omega) (by simp; omega) (n + 1) rfl ?_; intro ao5 cap5 w5 row5 hc5 hM5 hv5 hg5 hrow5; rw [HE0.out] at hM5; have hR5 := blk_grown (hR4.alloc _) hg5 (fun k hk => (hrow5 k hk).1) (by omega); have hS5 := blk_grown (hS4.alloc _) hg5 (fun k hk => (hrow5 k hk).1) (by omega); have bb5 := (bb4.alloc (by omega) _).grown hg5 (by simp; omega) (fun k hk => by have := (hrow5 k hk).1; omega); have hsz5 : B + 2 ≤ w5.heap.size := (by have := hg5.size; simp at this; omega); clear hR4 hS4 bb4 hM4 hg5 hrow5 hv5))
 have eS : Z.set 63 (Value.int .u8 d) = S0.map (Value.int .u8) := by rw [HZ.out, HS0.out]; rfl
 rw [eS] at hS5
 obtain ⟨pad, HPAD⟩ : ∃ pad : Nat, Hid (pad = (32 - (n + 1) % 32) % 32) := ⟨_, rfl⟩
 have hp31 : pad ≤ 31 := by rw [HPAD.out]; omega
 clear eS hcl
 go_loopw [6] (fun v wr => ∃ (j m : Nat) (ao' : Option Addr) (c' : Nat), j ≤ pad ∧ m = n + 1 + j ∧ m ≤ c' ∧ v = .slice ao' m c' ∧ Mine wr (B + 2) 5 1 v m ((T ++ List.replicate j 0).map (Value.int .u8)) ∧ BlkV 53 wr B Z ∧ BlkV 53 wr (B + 1) (S0.map (Value.int .u8)) ∧ Below B w wr ∧ B + 2 ≤ wr.heap.size) (fun v _ => n + 40 - slLen v)
 case atStart => exact ⟨0, n + 1, ao5, cap5, by omega, by omega, hc5, rfl, by simpa using hM5, hR5, hS5, bb5, hsz5⟩
 case round =>
  obtain ⟨j, m, ao', c', hj, hmj, hmc, rfl, hM, hR, hS, hb, hsz'⟩ := hrel
  obtain ⟨q, HQ⟩ : ∃ q : Nat, Hid (q = m % 32) := ⟨_, rfl⟩
  have hmod : (m : Int).tmod 32 = (q : Int) := by rw [Int.tmod_eq_emod_of_nonneg (by omega), HQ.out]; omega
  have hmod2 : (m : Int) % 32 = (q : Int) := by rw [HQ.out]; omega
  by_cases h0 : q = 0
  ·subst h0
   have eP : T ++ List.replicate j 0 = padOf l := by
    have e1 : j = (32 - (l.length + 1) % 32) % 32 := by have := HQ.out; have := HPAD.out; have := HN.out; omega
    rw [HT.out, e1]; rfl
   rw [eP] at hM
   obtain ⟨P, HPP⟩ : ∃ P : List Int, Hid (P = padOf l) := ⟨_, rfl⟩
   obtain ⟨F, HF⟩ : ∃ F : List Int, Hid (F = fullOf l) := ⟨_, rfl⟩
   obtain ⟨Q, HQQ⟩ : ∃ Q : Nat, Hid (Q = (padOf l).length / 32 + 1) := ⟨_, rfl⟩
   have hFl : F.length = 32 * Q := by rw [HF.out, HQQ.out]; exact fullOf_length l
   have hFo : Octs F := by rw [HF.out]; exact fullOf_octs HP.oct
   have eF : (P.map (Value.int .u8) ++ (List.replicate 24 (0 : Int)).map (Value.int .u8)) ++ (o8 (n : Int)).map (Value.int .u8) = F.map (Value.int .u8) := by
    rw [HPP.out, HF.out, HN.out]; unfold fullOf; simp
   have hml : m + 32 = 32 * Q := by
    have h1 : (P.map (Value.int .u8)).length = m * 1 := by rw [HPP.out]; rcases hM with h | ⟨h, _⟩; exact h.1; omega
    have h2 := padOf_length l
    rw [List.length_map, HPP.out] at h1
    rw [HQQ.out]; omega
   have hQm : 32 * Q ≤ 2100000 := by omega
   have HEF := hid eF
   have HMJ := hid hmj
   have hm0 : 0 < m := by omega
   rw [← HPP.out] at hM
   have hMo := mine_own hM hm0
   have hrow := fun k hk => (hMo.lt k hk).1
   have hO1 : ∀ u ∈ (o8 (n : Int)).map (Value.int .u8), u.oneCell' = true := ints_one _ _
   have hmle : m ≤ 2100000 := by omega
   have HROW := hid hrow
   have HMQ := hid hml
   clear eP eF hM hmj hml hrow
   go_wp2_with (first | (at_builtin; refine wl_appendMake rfl _ _ rfl (B + 2) 24 _ m _ rfl rfl hMo hm0 (by omega) (by omega) hsz' (m + 24) rfl ?_; intro ao7 cap7 w7 hc7 hM7 hg7; have hR7 := blk_grown hR hg7 HROW.out (by omega); have hS7 := blk_grown hS hg7 HROW.out (by omega); have bb7 := hb.grown hg7 (by omega) (fun k hk => by have := HROW.out k hk; omega); have hsz7 : B + 2 ≤ w7.heap.size := (by have := hg7.size; omega); clear hR hS hb hMo hg7) | (go_at_call 46; refine (longR n w7).mono ?_; rintro e w8 ⟨rfl, hL8, hb8⟩; have hR8 := hR7.below hb8 (by omega); have hS8 := hS7.below hb8 (by omega); have bb8 := bb7.trans (hb8.mono (by omega : B ≤ _)); have hM8 := Mine.belowAll (Or.inl hM7) hb8; have hsz8 : B + 2 ≤ w8.heap.size := (by have := hb8.size; omega); clear hR7 hS7 bb7 hM7 hb8) | (at_builtin; refine wl_appendS rfl _ _ 61 rfl 5 (.int .u8 0) 1 1 Tryz.underlying61 info8 rfl (by decide) (B + 2) _ (m + 24) _ rfl hM8 (some ⟨w7.heap.size, 0, none⟩) 8 8 rfl (fun h => by cases h) ((o8 (n : Int)).map (Value.int .u8)) rfl (rowV_of (BlkI.v hL8)) hO1 (by unfold maxLen; omega) (by omega) hsz8 (32 * Q) (by rw [← HMQ.out]) ?_; intro ao9 cap9 w9 row9 hc9 hM9 hv9 hg9 hrow9; rw [HEF.out] at hM9 hv9; have hR9 := blk_grown hR8 hg9 (fun k hk => (hrow9 k hk).1) (by omega); have hS9 := blk_grown hS8 hg9 (fun k hk => (hrow9 k hk).1) (by omega); have bb9 := bb8.grown hg9 (by omega) (fun k hk => by have := (hrow9 k hk).1; omega); clear hR8 hS8 bb8 hM8 hg9 hrow9))
   have hF9 : RowI .u8 w9 ao9 F := hv9.i
   have hlo9 : ∀ b, ao9 = some b → B + 2 ≤ b.block := fun b e => ((mine_own hM9 (by have := HMQ.out; omega)).lt b.block (by rw [e]; rfl)).1
   have hcm9 : cap9 ≤ maxLen := by
    have hq0 := HMQ.out
    rcases (mine_own hM9 (by omega)).2 with ⟨h, _⟩ | ⟨g, cap, cur, hv, _, _, _, hcm, _⟩
    ·injection h with h1 h2 h3; omega
    ·injection hv with h1 h2 h3; omega
   unfold maxLen at hcm9
   clear hM9 hv9
   go_loopw [6] (fun v wr => ∃ (q m2 : Nat) (ao' : Option Addr) (c2 : Nat), 32 * q + m2 = 32 * Q ∧ m2 ≤ c2 ∧ c2 ≤ cap9 ∧ v = .slice ao' m2 c2 ∧ RowI .u8 wr ao' (F.drop (32 * q)) ∧ (∀ b, ao' = some b → B + 2 ≤ b.block) ∧ BlkV 53 wr B Z ∧ BlkV 53 wr (B + 1) ((absN S0 F q).map (Value.int .u8)) ∧ Below B w wr) (fun v _ => slLen v)
   case atStart => exact ⟨0, 32 * Q, ao9, cap9, by omega, hc9, Nat.le_refl _, rfl, by simpa using hF9, hlo9, hR9, hS9, bb9⟩
   case round =>
    obtain ⟨q, m2, ao2, c2, hq, hmc, hcc, rfl, hrw, hlo, hR, hS, hb⟩ := hrel
    have hsl := absN_length S0 F hS0l q
    have hso := absN_octs S0 F hS0o q
    obtain ⟨s, HSS⟩ : ∃ s : List Int, Hid (s = absN S0 F q) := ⟨_, rfl⟩
    rw [← HSS.out] at hS hsl hso
    by_cases h0 : m2 = 0
    ·subst h0
     have eq : q = Q := by omega
     have es : s = endL (start d) l := by rw [HSS.out, eq, HQQ.out, HF.out, HS0.out]; exact fullOf_end _ _
     have hsm : (s.map (Value.int .u8)).length = 64 := by rw [List.length_map, hsl]
     have hs1 : ∀ u ∈ s.map (Value.int .u8), u.oneCell' = true := ints_one _ _
     have HES := hid es
     clear es
     go_wp2_with (first | (refine wl_load rfl 53 _ rfl ⟨B + 1, 0, none⟩ rfl (s.map (Value.int .u8)) (by rw [hsm]; exact agg64') hS.at0 ?_) | (refine wl_storeV rfl 53 _ _ rfl 53 B rfl (s.map (Value.int .u8)) rfl 64 agg64' hsm Z hR hZl hs1 ?_; intro w10 hR10 hb10 hs10))
     (try simp only [Exit.inBlock, Exit.then]); refine bodyPost_ret (results_cell rfl _ _ _ _ rfl (s.map (Value.int .u8)) (by rw [hsm]; exact agg64') hR10.at0) rfl ?_
     exact ⟨by rw [HES.out], by rw [← HB.out]; exact hb.trans hb10⟩
    ·have hmI : (0 : Int) < (m2 : Int) := by omega
     have hm32 : 32 ≤ m2 := by omega
     obtain ⟨b, off, rfl, hbw, hcell⟩ := hrw.at (i := 0) (by rw [List.length_drop]; omega)
     have hbB := hlo _ rfl
     have hbo : Octs ((F.drop (32 * q)).take 32) := fun c hc => hFo c (List.mem_of_mem_drop (List.mem_of_mem_take hc))
     obtain ⟨bk, HBK⟩ : ∃ bk : List Int, Hid (bk = (F.drop (32 * q)).take 32) := ⟨_, rfl⟩
     rw [← HBK.out] at hbo
     have hdl : (F.drop (32 * q)).length = m2 := by rw [List.length_drop]; omega
     have hbcell : ∀ i, i < 32 → wr.cell? ⟨b, off + i, none⟩ = some (.int .u8 (bk.getD i 0)) := by
      intro i hi
      rw [hcell i (by omega), HBK.out, getD_takeI _ _ _ hi]
     have HBC := hid hbcell
     have HCELL := hid hcell
     have hbne : b ≠ B + 1 := by have : B + 2 ≤ b := hbB; omega
     have HDL := hid hdl
     have HM32 := hid hm32
     clear hcell hrw hlo hbcell hdl
     go_wp2_with fail
     go_loopw [32] (fun i wx => ∃ k : Nat, k ≤ 32 ∧ i = .int .i64 k ∧ BlkV 53 wx (B + 1) ((xorTo s bk k).map (Value.int .u8)) ∧ wr.grownBy wx (some (B + 1))) (fun i _ => 32 - (intOf i).toNat)
     case atStart => exact ⟨0, by omega, rfl, by rw [xorTo_zero s bk hsl]; exact hS, World.grownBy.refl _ _⟩
     case round =>
      obtain ⟨k, hk, rfl, hG, hgr⟩ := hrel
      have hxl := xorTo_length s bk k
      by_cases h1 : k < 32
      ·have hkI : (k : Int) < 32 := by omega
       have hkI6 : (k : Int) < 64 := by omega
       have hkI0 : (0 : Int) ≤ (k : Int) := by omega
       have hkm : (k : Int) < (m2 : Int) := by omega
       obtain ⟨x, Hx⟩ := hidE (s.getD k 0)
       obtain ⟨y, Hy⟩ := hidE (bk.getD k 0)
       have cB := hgr.cell (HBC.out k h1) (by intro e; have := Option.some.inj e; exact hbne this)
       rw [← Hy.out] at cB
       have cX : wr.cell? ⟨B + 1, k, none⟩ = some (.int .u8 x) := by
        have e := xorTo_get s bk k k (by omega)
        rw [if_neg (Nat.lt_irrefl k), ← Hx.out, getD_lt' _ 0 (by rw [hxl]; omega)] at e
        rw [hG.cell k, List.getElem?_map, List.getElem?_eq_getElem (by rw [hxl]; omega), e]; rfl
       have fX := hG.frozen k
       have HS := hid (xorTo_set s bk k (by omega))
       rw [← Hx.out, ← Hy.out] at HS
       go_wp2_with fail
       refine wp_region_still_tail 9 (by kernel_rfl) (by kernel_rfl) ?_
       simp only [List.take_succ_cons, List.take_zero, List.drop_succ_cons, List.drop_zero]
       change wpStill _ _ wr.drew (fun a' => wpList _ _ _ _ a' wr.drew) _ _
       repeat still_step
       refine wpStill_nil ?_
       go_wp2
       go_roundw
       case rel => exact ⟨k + 1, by omega, by go_num, by rw [← HS.out, List.map_set]; exact hG.drew.set k _, grown_set (grown_drew hgr) _ _⟩
       case measure => simp [intOf] <;> omega
      ·obtain rfl : k = 32 := by omega
       have hxo := xorTo_octs hso hbo 32
       obtain ⟨X, HX⟩ : ∃ X : List Int, Hid (X = xorTo s bk 32) := ⟨_, rfl⟩
       rw [← HX.out] at hG hxl hxo
       have hXm : (X.map (Value.int .u8)).length = 64 := by rw [List.length_map, hxl]
       have hst := hid (stirR X wr hxl hxo)
       obtain ⟨Y, HY⟩ : ∃ X : List Int, Hid (X = absN S0 F (q + 1)) := ⟨_, rfl⟩
       have eY : stirL X = Y := by rw [HY.out, HX.out, HSS.out, HBK.out]; rfl
       rw [eY] at hst
       have hYl : Y.length = 64 := by rw [HY.out]; exact absN_length S0 F hS0l _
       have hYm : (Y.map (Value.int .u8)).length = 64 := by rw [List.length_map, hYl]
       have hY1 : ∀ u ∈ Y.map (Value.int .u8), u.oneCell' = true := ints_one _ _
       have hRi := hR.grown hgr (by intro e; have := Option.some.inj e; omega)
       have hbi := hb.trans (below_of_grown hgr (by rw [HB.out]; exact hb.size) (by omega) : Below B _ wr)
       have hgs := hG.lt
       have HM32' := HM32.out
       have hbwr : b < wr.heap.size := Nat.lt_of_lt_of_le hbw hgr.size
       have hnext := fun (wy wz : World) (h1 : Below wr.heap.size wr wy) (h2 : wy.grownBy wz (some (B + 1))) => hid (fun (i : Nat) (hi : i < (F.drop (32 * q)).length) =>
        h2.cell (a := ⟨b, off + i, none⟩) ((h1.cell (p := ⟨b, off + i, none⟩) hbwr).trans (hgr.cell (HCELL.out i hi) (by intro e; exact hbne (Option.some.inj e)))) (by intro e; exact hbne (Option.some.inj e)))
       clear hS hR hb
       by_cases hc32 : c2 = 32
       ·obtain rfl : m2 = 32 := by omega
        subst hc32
        go_wp2_with (first | (refine wl_load rfl 53 _ rfl ⟨B + 1, 0, none⟩ rfl (X.map (Value.int .u8)) (by rw [hXm]; exact agg64') hG.at0 ?_) | (go_at_call 113; refine hst.out.mono ?_; rintro e w11 ⟨rfl, hb11⟩; have hG11 := hG.below hb11 hgs; have hR11 := hRi.below hb11 (by omega); have bb11 := hbi.trans (hb11.mono (by omega : B ≤ _)); clear hG hRi hbi) | (refine wl_putAt rfl 53 _ _ rfl 53 (B + 1) 0 rfl (Y.map (Value.int .u8)) rfl (by rw [hYm]; exact agg64'.2) (X.map (Value.int .u8)) hG11 (by rw [hXm, hYm]; decide) hY1 ?_; intro w12 hG12 hg12 hs12; rw [List.take_zero, List.nil_append, List.drop_of_length_le (by rw [hXm, hYm]; decide), List.append_nil] at hG12; have hR12 := hR11.grown hg12 (by intro e; have := Option.some.inj e; omega); have bb12 := bb11.trans (below_of_grown hg12 (by have := hb11.size; omega) (by omega) : Below B _ w12); clear hG11 hR11 bb11))
        go_roundw
        case rel => 
         rw [HY.out] at hG12
         exact ⟨q + 1, 0, _, _, by omega, by omega, by omega, rfl, Or.inl (List.drop_eq_nil_of_le (by omega)), (fun b' h => by cases h; exact hbB), hR12, hG12, bb12⟩
        case measure => simp [slLen]
       ·have hc32' : ¬ (c2 : Int) = 32 := by omega
        go_wp2_with (first | (refine wl_load rfl 53 _ rfl ⟨B + 1, 0, none⟩ rfl (X.map (Value.int .u8)) (by rw [hXm]; exact agg64') hG.at0 ?_) | (go_at_call 113; refine hst.out.mono ?_; rintro e w11 ⟨rfl, hb11⟩; have hG11 := hG.below hb11 hgs; have hR11 := hRi.below hb11 (by omega); have bb11 := hbi.trans (hb11.mono (by omega : B ≤ _)); clear hG hRi hbi) | (refine wl_putAt rfl 53 _ _ rfl 53 (B + 1) 0 rfl (Y.map (Value.int .u8)) rfl (by rw [hYm]; exact agg64'.2) (X.map (Value.int .u8)) hG11 (by rw [hXm, hYm]; decide) hY1 ?_; intro w12 hG12 hg12 hs12; rw [List.take_zero, List.nil_append, List.drop_of_length_le (by rw [hXm, hYm]; decide), List.append_nil] at hG12; have hR12 := hR11.grown hg12 (by intro e; have := Option.some.inj e; omega); have bb12 := bb11.trans (below_of_grown hg12 (by have := hb11.size; omega) (by omega) : Below B _ w12); clear hG11 hR11 bb11))
        go_roundw
        case rel =>
         rw [HY.out] at hG12
         refine ⟨q + 1, m2 - 32, _, _, by omega, by omega, by omega, rfl, ?_, (fun b' h => by cases h; exact hbB), hR12, hG12, bb12⟩
         by_cases hmz : m2 = 32
         ·exact Or.inl (List.drop_eq_nil_of_le (by omega))
         ·refine Or.inr ⟨b, off + 32, rfl, Nat.lt_of_lt_of_le hbwr (Nat.le_trans hb11.size hg12.size), fun i hi => ?_⟩
          have hdd : F.drop (32 * (q + 1)) = (F.drop (32 * q)).drop 32 := by rw [List.drop_drop]; congr 1
          rw [hdd, List.length_drop] at hi
          have h1 := (hnext w11 w12 hb11 hg12).out (32 + i) (by omega)
          rw [← Nat.add_assoc] at h1
          rw [h1, hdd, getD_dropI (F.drop (32 * q)) 32 i]
        case measure => simp [slLen]; omega
  ·have hqI : ¬ (q : Int) = 0 := by omega
   have hjp : j < pad := by have := HQ.out; have := HPAD.out; omega
   have ej : ((T ++ List.replicate j 0).map (Value.int .u8) ++ [Value.int .u8 0]) = (T ++ List.replicate (j + 1) 0).map (Value.int .u8) := by
    rw [List.replicate_succ', ← List.append_assoc]; simp
   have HEJ := hid ej
   have HMJ := hid hmj
   clear ej hmj
   have hml : m ≤ 2100000 := by have := HMJ.out; omega
   go_wp2_with (first | (at_builtin; refine wl_appendS rfl _ _ 61 rfl 5 (.int .u8 0) 1 1 Tryz.underlying61 info8 rfl (by decide) (B + 2) _ m _ rfl (hM.belowAll ((Below.refl _ _).alloc (Nat.le_refl _) _)) (some ⟨wr.heap.size, 0, none⟩) 1 1 rfl (fun h => by cases h) [.int .u8 0] rfl (rowV_of (BlkV.new _ _ _ rfl)) (by intro u hu; simp at hu; subst hu; rfl) (by unfold maxLen; omega) (by omega) (by simp; omega) (m + 1) rfl ?_; intro ao6 cap6 w6 row6 hc6 hM6 hv6 hg6 hrow6; rw [HEJ.out] at hM6; have hR6 := blk_grown (hR.alloc _) hg6 (fun k hk => (hrow6 k hk).1) (by omega); have hS6 := blk_grown (hS.alloc _) hg6 (fun k hk => (hrow6 k hk).1) (by omega); have bb6 := (hb.alloc (by omega) _).grown hg6 (by simp; omega) (fun k hk => by have := (hrow6 k hk).1; omega); have hsz6 : B + 2 ≤ w6.heap.size := (by have := hg6.size; simp at this; omega); clear hR hS hb hM hg6 hrow6 hv6))
   go_roundw
   case rel => exact ⟨j + 1, m + 1, ao6, cap6, by omega, by rw [HMJ.out]; omega, hc6, rfl, hM6, hR6, hS6, bb6, hsz6⟩
   case measure => have := HMJ.out; simp [slLen]; omega
end Go.Proofs.YtdhipjoplkpgmaaGreatDoor.hs
namespace Go.Proofs.YtdhipjoplkpgmaaGreatDoor.hs
open Go.RowKit st shr
theorem sumR (d : Int) (hd : Oct d) (ao : Option Addr) (cap n : Nat) (l : List Int) (w : World) (hn : n = l.length) (HP : Pt.Ok w ⟨ao, cap, l⟩) (hno : ao = none → cap = 0 ∧ n = 0) (hm : n ≤ 2097152) :
  Calls Tryz.prog 45 #[.int .i64 d, .slice ao n cap] w fun e w' => e = .returned (.agg ((sumL d l).map (Value.int .u8)).toArray) ∧ Below w.heap.size w w' := by
 obtain ⟨Z, HZ⟩ := hidE ((List.replicate 64 (0 : Int)).map (Value.int .u8))
 have hz64 := hid zeroA64
 rw [← HZ.out] at hz64
 obtain ⟨Y, HY⟩ := hidE ((List.replicate 32 (0 : Int)).map (Value.int .u8))
 have hz32 := hid zeroSumT
 rw [← HY.out] at hz32
 obtain ⟨B, HB⟩ := hidE w.heap.size
 have hsz : w.heap.size = B := HB.out.symm
 obtain ⟨E, HE⟩ : ∃ E : List Int, Hid (E = endL (start d) l) := ⟨_, rfl⟩
 have hEl : E.length = 64 := by rw [HE.out]; exact endL_length _ _
 have hE1 : ∀ u ∈ E.map (Value.int .u8), u.oneCell' = true := ints_one _ _
 have hEm : (E.map (Value.int .u8)).length = 64 := by rw [List.length_map, hEl]
 obtain ⟨S, HS⟩ : ∃ S : List Int, Hid (S = sumL d l) := ⟨_, rfl⟩
 have hS1 : ∀ u ∈ S.map (Value.int .u8), u.oneCell' = true := ints_one _ _
 have hSm : (S.map (Value.int .u8)).length = 32 := by rw [List.length_map, HS.out, sumL_length]
 have HSM := hid hSm
 have hYl : Y.length = 32 := by rw [HY.out]; simp
 have hZl : Z.length = 64 := by rw [HZ.out]; simp
 have hal : Tryz.prog.arrayLen 53 = 64 := by kernel_rfl
 have halS : Tryz.prog.arrayLen 39 = 32 := by kernel_rfl
 have hst := fun w' (hb : Below B w w') => hid (stateR d hd ao cap n l w' hn (HP.below (hsz ▸ hb)) hno hm)
 rw [← HE.out] at hst
 rw [← HS.out]
 have HN := hid hn
 clear hn
 go_enter Tryz.func45, Tryz.ntmps45
 go_wp2_with (first | (refine wl_allocV rfl 39 rfl Y hz32.out B hsz ?_; intro w1 hR1 hb1 hs1; clear hz32) | (go_at_call 106; refine (hst w1 hb1).out.mono ?_; rintro e w2 ⟨rfl, hb2⟩; have hR2 := hR1.below hb2 (by omega); have bb2 : Below B w w2 := hb1.trans (hb2.mono (by omega)); have hsz2 := hb2.size; clear hR1 hb1 hb2) | (refine wl_allocV rfl 53 rfl Z hz64.out w2.heap.size rfl ?_; intro w3 hE3 hb3 hs3; clear hz64; have hR3 := hR2.below hb3 (by omega); have bb3 : Below B w w3 := bb2.trans (hb3.mono (by omega)); clear hR2 bb2 hb3) | (refine wl_storeV rfl 53 _ _ rfl 53 w2.heap.size rfl (E.map (Value.int .u8)) rfl 64 agg64' hEm Z hE3 hZl hE1 ?_; intro w4 hE4 hb4 hs4; have hR4 := hR3.below hb4 (by omega); have bb4 : Below B w w4 := bb3.trans (hb4.mono (by omega)); clear hR3 bb3 hb4 hE3))
 have hfit : 0 + (S.map (Value.int .u8)).length ≤ Y.length := by rw [HSM.out, hYl]; omega
 have hmin : (S.map (Value.int .u8)).length = Nat.min 32 32 := by rw [HSM.out]; rfl
 have hat : At w4 ⟨w2.heap.size, 0, none⟩ (S.map (Value.int .u8)) := hE4.at 0 _ fun j u hu => by
  rw [Nat.zero_add]; rw [HS.out, sumL, ← HE.out, List.map_take, List.getElem?_take] at hu; split at hu; exact hu; cases hu
 obtain ⟨g2, HG2⟩ := hidE w2.heap.size
 rw [← HG2.out] at hat ⊢
 go_region_law (refine step_copy_splice rfl (.tmp 9) (.tmp 10) 61 61 rfl 5 Tryz.underlying61 size5 (some ⟨B, 0, none⟩) (some ⟨g2, 0, none⟩) 32 32 32 64 rfl rfl B 0 Y 39 hR4 (S.map (Value.int .u8)) hmin (fun _ => ⟨rfl, _, rfl, hat⟩) hfit hS1 B w4 ((Below.refl _ _).drew) (Nat.le_refl _) ?_; intro w5 hg5 hb5)
 have hR5 : BlkV 39 w5 B (S.map (Value.int .u8)) := by
  have h1 := hg5.out
  unfold splice at h1
  rw [List.take_zero, List.nil_append, List.drop_of_length_le (by rw [HSM.out, hYl]; decide), List.append_nil] at h1
  exact h1
 have bb5 : Below B w w5 := bb4.trans (hb5.mono (Nat.le_refl _))
 clear hR4 hE4 bb4 hg5 hb5 hat hfit hmin
 go_wp2_with (first | (refine wl_load rfl 39 _ rfl ⟨B, 0, none⟩ rfl (S.map (Value.int .u8)) (by rw [hSm]; exact aggSumT) hR5.at0 ?_) | (refine wl_storeV rfl 39 _ _ rfl 39 B rfl (S.map (Value.int .u8)) rfl 32 aggSumT hSm (S.map (Value.int .u8)) hR5 hSm hS1 ?_; intro w6 hR6 hb6 hs6))
 (try simp only [Exit.inBlock, Exit.then]); refine bodyPost_ret (results_cell rfl _ _ _ _ rfl (S.map (Value.int .u8)) (by rw [hSm]; exact aggSumT) hR6.at0) rfl ?_
 exact ⟨rfl, by rw [← HB.out]; exact bb5.trans hb6⟩
theorem o8_drop (n : Int) : (o8 n).drop 4 = o4 n := rfl
theorem shortR (q : Int) (w : World) :
  Calls Tryz.prog 162 #[.int .i64 q] w fun e w' => e = .returned (.slice (some ⟨w.heap.size, 4, none⟩) 4 4) ∧ RowI .u8 w' (some ⟨w.heap.size, 4, none⟩) (o4 q) ∧ Below w.heap.size w w' := by
 have hl := hid (longR q w)
 go_enter Tryz.func162, Tryz.ntmps162
 go_wp2_with (go_at_call 46; refine hl.out.mono ?_; rintro e w1 ⟨rfl, hL, hb⟩)
 go_ret
 refine ⟨rfl, Or.inr ⟨w.heap.size, 4, rfl, hL.lt, fun i hi => ?_⟩, hb⟩
 have hi4 : i < 4 := hi
 rw [hL.cell (i := 4 + i) (by show 4 + i < 8; omega), ← o8_drop, getD_dropI]
end Go.Proofs.YtdhipjoplkpgmaaGreatDoor.hs
